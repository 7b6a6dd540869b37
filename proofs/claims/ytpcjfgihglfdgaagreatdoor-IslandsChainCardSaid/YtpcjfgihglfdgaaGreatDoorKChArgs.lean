/- Rules of the parser's args and call. Condition: what the package-level variables hold lies as it was laid (at a call). Contracts of tree.size and tree.Right at any tree whose nodes are as their kinds say. Condition: utf8's tables lie as they were laid. -/
import Derived.Test.YtpcjfgihglfdgaaGreatDoorKChCall
import Derived.Test.YtpcjfgihglfdgaaGreatDoorKChBareO
import Derived.Deep.LoopGhost

namespace Go.Proofs.YtpcjfgihglfdgaaGreatDoor
open Go.RowKit Go.Lib

theorem Al.call {T : List (Int × ByteArray × Nat)} {p tb tf tc g1 g2 : Nat} {w y z : World} {v : Value} {a b : Nat} {f : Fo} (h : Al T p tb tf tc w g1 g2 y a v f) (hp : Pz T p tb tf tc b z) (hc : Chg [p] y z) : Al T p tb tf tc w g1 g2 z b v f := by
  have hg := h.gs
  refine ⟨hp, hc.heap h.box (by simp only [List.mem_singleton]; omega), hc.heap h.lst (by simp only [List.mem_singleton]; omega), ?_, h.chg.trans hc (by simp), h.gs⟩
  obtain ⟨h0, L, h1, h2, h3, h4⟩ := h.own
  refine ⟨h0, L, hc.owns h1 (fun x hx => by have := (h1.lt x hx).1; simp only [List.mem_singleton]; omega), h2, h3, fun j o k hj => ?_⟩
  obtain ⟨ao, c, h5, h6⟩ := h4 j o k hj
  exact ⟨ao, c, h5, h6.chg hc (by simp only [List.mem_singleton, forall_eq]; omega)⟩
/-- n arguments more, each behind a comma; a parenthesis behind them -/
inductive Ags (T : List (Int × ByteArray × Nat)) : Nat → Nat → Fo → Nat → Fo → Prop
  | stop {b q : Nat} {f : Fo} (h : T[b]? = some (8, bs [41], q)) : Ags T 0 b f (b + 1) f
  | more {n a b1 b q : Nat} {f f' k : Fo} {o : Ow} (h : T[a]? = some (8, bs [44], q)) (hE : ExprOk T (a + 1) 1 o k b1) (hr : Ags T n b1 (f.app (.cons o k .nil)) b f') : Ags T (n + 1) a f b f'
theorem Ags.inv0 {T : List (Int × ByteArray × Nat)} {a b : Nat} {f f' : Fo} (h : Ags T 0 a f b f') : ∃ q, T[a]? = some (8, bs [41], q) ∧ b = a + 1 ∧ f' = f := by
  cases h with
  | stop h => exact ⟨_, h, rfl, rfl⟩
theorem Ags.inv1 {T : List (Int × ByteArray × Nat)} {n a b : Nat} {f f' : Fo} (h : Ags T (n + 1) a f b f') : ∃ q o k b1, T[a]? = some (8, bs [44], q) ∧ ExprOk T (a + 1) 1 o k b1 ∧ Ags T n b1 (f.app (.cons o k .nil)) b f' := by
  cases h with
  | more h hE hr => exact ⟨_, _, _, _, h, hE, hr⟩
section
variable {T : List (Int × ByteArray × Nat)}
theorem no_of_sign {a q : Nat} {x y : UInt8} (h : T[a]? = some (8, bs [x], q)) (hn : x ≠ y) : NoSign T a [y] := .inr (.inr ⟨[x], q, h, by simpa using hn⟩)
set_option maxRecDepth 20000 in
set_option maxHeartbeats 2000000 in
theorem between_any {p tb tf tc g1 g2 a b1 b n : Nat} {w y : World} {v : Value} {f f' k : Fo} {o : Ow} (h : Al T p tb tf tc w g1 g2 y a v f) (hn : f.len + n ≤ 900) (hE : ExprOk T a 1 o k b1) (hA : Ags T n b1 (f.app (.cons o k .nil)) b f') :
    Calls Tryz.prog 340 #[.pointer (some ⟨p, 0, none⟩), .func (.func 341) #[] #[.pointer (some ⟨g2, 0, none⟩), .pointer (some ⟨g1, 0, none⟩)], .string ⟨#[41]⟩] y fun e z => e = .returned (.tuple #[]) ∧ ∃ v', Al T p tb tf tc w g1 g2 z b v' f' := by
  have HL := hid h
  have HN := hid hn
  have XE := hid hE
  have XA := hid hA
  clear h hn hE hA
  go_enter Tryz.func340, Tryz.ntmps340
  go_wp2_with fail
  refine (arg_any HL.out (by have := HN.out; omega) XE.out).mono ?_
  rintro e w1 ⟨rfl, v1, h1⟩
  have HL1 := hid h1
  have HN1 := hid (show (f.app (.cons o k .nil)).len + n ≤ 901 from by rw [Fo.len_app]; have := HN.out; show f.len + 1 + n ≤ 901; omega)
  obtain ⟨f1, hf1⟩ : ∃ f1, f1 = f.app (.cons o k .nil) := ⟨_, rfl⟩
  rw [← hf1] at HL1 HN1 XA
  clear h1 HL HN XE hf1
  go_wp2_with fail
  go_loopg [8] n (fun gk _ wr => ∃ a2 v2 f2, Ags T gk a2 f2 b f' ∧ f2.len + gk ≤ 901 ∧ Al T p tb tf tc w g1 g2 wr a2 v2 f2)
  case atStart => exact ⟨_, _, _, XA.out, HN1.out, HL1.out⟩
  case round =>
    obtain ⟨a2, v2, f2, hA2, hn2, hL2⟩ := hrel
    have HL2 := hid hL2
    have HN2 := hid hn2
    clear hL2 hn2 HL1 HN1 XA
    cases gk with
    | zero =>
      obtain ⟨q, h1, rfl, rfl⟩ := hA2.inv0
      have X1 := hid h1
      clear h1 hA2
      go_wp2_with fail
      refine (has_some HL2.out.par 41 X1.out).mono ?_
      rintro e w2 ⟨rfl, h3, hc3⟩
      have HL3 := hid (HL2.out.call h3 hc3)
      clear h3 hc3 HL2
      go_wp2_with fail
      go_end0
      exact ⟨rfl, _, HL3.out⟩
    | succ n1 =>
      obtain ⟨q, o2, k2, b2, h1, h2, h3⟩ := hA2.inv1
      have X1 := hid h1
      have X2 := hid h2
      have X3 := hid h3
      clear h1 h2 h3 hA2
      go_wp2_with fail
      refine (has_none HL2.out.par 41 (no_of_sign X1.out (by decide))).mono ?_
      rintro e w2 ⟨rfl, rfl⟩
      go_wp2_with fail
      refine (has_some HL2.out.par 44 X1.out).mono ?_
      rintro e w2 ⟨rfl, h3, hc3⟩
      have HL3 := hid (HL2.out.call h3 hc3)
      clear h3 hc3 HL2
      go_wp2_with fail
      refine (must_yes _).mono ?_
      rintro e w3 ⟨rfl, rfl⟩
      go_wp2_with fail
      refine (arg_any HL3.out (by have := HN2.out; omega) X2.out).mono ?_
      rintro e w4 ⟨rfl, v4, h4⟩
      have HL4 := hid h4
      clear h4 HL3
      go_wp2_with fail
      go_roundg n1
      case measure => omega
      case rel => exact ⟨_, _, _, X3.out, by rw [Fo.len_app]; have := HN2.out; show f2.len + 1 + n1 ≤ 901; omega, HL4.out⟩
theorem results_cell_one {fn : Func} {p : Tmp} {t1 : TypeId} (h : fn.results = #[.cell p t1]) (tmps : Array Value) (w : World) (a1 : Addr) (v1 : Value)
    (hp : tmps.getD p undef = .pointer (some a1)) (h1 : (loadVar t1 a1).run Tryz.prog w = .ok v1 w) : (results fn tmps).run Tryz.prog w = .ok v1 w := by
  have hp' : tmps[p]?.getD undef = .pointer (some a1) := by simpa using hp
  simp [results, h, hp', asAddr, h1]
def ArgsOk (T : List (Int × ByteArray × Nat)) (a : Nat) (f : Fo) (b : Nat) : Prop := ∀ p tb tf tc w, Pz T p tb tf tc a w → Calls Tryz.prog 310 #[.pointer (some ⟨p, 0, none⟩)] w fun e w' => ∃ ao c, e = .returned (.slice ao f.len c) ∧ KidsV w' (w.heap.size ≤ ·) (.slice ao f.len c) f ∧ Pz T p tb tf tc b w' ∧ Chg [p] w w'
set_option maxRecDepth 20000 in
set_option maxHeartbeats 2000000 in
theorem args_some {a b1 b n : Nat} {f' k : Fo} {o : Ow} (n41 : NoSign T a [41]) (hn : n ≤ 800) (hE : ExprOk T a 1 o k b1) (hA : Ags T n b1 (.cons o k .nil) b f') : ArgsOk T a f' b := by
  intro p tb tf tc w h
  have b0 := ((Below.refl w.heap.size w).alloc (Nat.le_refl _) (.cells #[.pointer (some ⟨p, 0, none⟩)] 243)).alloc (by simp) (.cells #[.slice none 0 0] 57)
  have hp := h.plt
  have L0 : Al T p tb tf tc w w.heap.size (w.heap.size + 1) ((w.alloc (.cells #[.pointer (some ⟨p, 0, none⟩)] 243)).alloc (.cells #[.slice none 0 0] 57)) a (.slice none 0 0) .nil :=
    ⟨h.keep b0, heap_alloc_keep (heap_alloc_new w _) _, heap_alloc2_new w _ _, NodesOwn.nil _ _, Chg.of_below b0, hp, by omega, Nat.le_refl _⟩
  have HL0 := hid L0
  have c1 := cell_of (i := 0) L0.box rfl
  have X41 := hid n41
  have XE := hid hE
  have XA := hid hA
  have HN := hid hn
  clear h b0 hp L0 n41 hE hA hn
  go_enter Tryz.func310, Tryz.ntmps310
  go_wp2_with fail
  generalize World.alloc (World.alloc _ _) _ = w0 at HL0 c1 ⊢
  obtain ⟨g1, hg1⟩ : ∃ g1, g1 = w.heap.size := ⟨_, rfl⟩
  rw [← hg1] at HL0 c1 ⊢
  have HG := hid hg1
  clear hg1
  refine (has_none HL0.out.par 41 X41.out).mono ?_
  rintro e w1 ⟨rfl, rfl⟩
  go_wp2_with fail
  refine (between_any (f := .nil) HL0.out (by have := HN.out; show 0 + n ≤ 900; omega) XE.out XA.out).mono ?_
  rintro e w2 ⟨rfl, v2, h2⟩
  obtain ⟨ao, cc, hv, -⟩ := h2.own.kids
  subst hv
  obtain ⟨m, hm⟩ : ∃ m, m = f'.len := ⟨_, rfl⟩
  have XM := hid hm
  rw [← hm] at h2
  have H2 := hid h2
  have d2 := cell_of (i := 0) h2.lst rfl
  have f2 := free_of (i := 0) h2.lst
  clear h2 hm HL0 c1
  have l3 : (w2.setCell ⟨g1 + 1, 0, none⟩ (.slice ao m cc)).heap[g1 + 1]? = some (.cells #[.slice ao m cc] 57 (0, 0)) := heap_setCell_at (i := 0) H2.out.lst _
  have d3 := cell_of (i := 0) l3 rfl
  go_wp2_with fail
  refine bodyPost_ret (v := .slice ao m cc) (results_cell_one rfl _ _ ⟨g1 + 1, 0, none⟩ (.slice ao m cc) rfl (by simp [go_sem, d3])) rfl ?_
  obtain ⟨ao', cc', e3, hk⟩ := H2.out.own.kids
  have cs : Chg [g1 + 1] w2 (w2.setCell ⟨g1 + 1, 0, none⟩ (.slice ao m cc)) := (Chg.refl _ _).setCell (.inl (by simp)) _
  have hg := H2.out.gs
  have hG := HG.out
  refine ⟨ao, cc, by rw [XM.out], ?_, H2.out.par.cell (by omega) 0 _, H2.out.chg.trans cs (by simp only [List.mem_singleton, forall_eq]; right; omega)⟩
  rw [← XM.out]
  exact (hk.chg cs (by simp)).mono (fun x hx => by omega)
abbrev owCall (s : ByteArray) : Ow := ⟨12, s, 0, 0, false, 0, rfZ 0, rfZ 0, 0⟩
set_option maxRecDepth 20000 in
set_option maxHeartbeats 2000000 in
theorem call_any {a b q q2 : Nat} {s S : ByteArray} {f : Fo} (ht : T[a]? = some (7, s, q)) (h40 : T[a + 1]? = some (8, bs [40], q2)) (hA : ArgsOk T (a + 2) f b)
    (HCN : ∀ w, Calls Tryz.prog 272 #[.string s] w fun e w' => e = .returned (.bool true) ∧ w = w') (HGR : ∀ w, Tabs w → Calls Tryz.prog 273 #[.string s] w fun e w' => e = .returned (.string S) ∧ Below w.heap.size w w')
    (_hL : (S == ⟨#[76, 65, 77, 66, 68, 65]⟩) = false) (_hT : (S == ⟨#[76, 69, 84]⟩) = false) (hLl : (S.toList == [76, 65, 77, 66, 68, 65]) = false) (hTl : (S.toList == [76, 69, 84]) = false) : CallOk T a (owCall S) f b := by
  intro p tb tf tc w h
  have hp := h.plt
  have b0 := (Below.refl w.heap.size w).alloc (Nat.le_refl _) (.cells (nodeL 0 0).toArray 79)
  have H0 := hid (h.keep b0)
  have B0 := hid b0
  have N0 := hid (show NdV w.heap.size (nodeL 0 0) (w.alloc (.cells (nodeL 0 0).toArray 79)) from heap_alloc_new w _)
  obtain ⟨g, hg⟩ : ∃ g, g = w.heap.size := ⟨_, rfl⟩
  have HG := hid (show g = w.heap.size ∧ p < g from ⟨hg, by omega⟩)
  have XT := hid ht
  have X40 := hid h40
  have XA := hid hA
  have XC := hid HCN
  have XG := hid HGR
  have hlen := h.py.len
  have hlt := (List.getElem?_eq_some_iff.1 ht).1
  obtain ⟨n, hn⟩ : ∃ n, n = T.length := ⟨_, rfl⟩
  rw [← hn] at hlt hlen
  have XN := hid hn
  have ha1 : a < 1000 := by omega
  have hab : ((a : Int) < (n : Int)) = True := by rw [eq_iff_iff, iff_true]; omega
  clear h ht h40 hA HCN HGR b0 hp hn
  go_enter Tryz.func307, Tryz.ntmps307
  go_wp2_with fail
  generalize World.alloc _ _ = w0 at H0 B0 N0 ⊢
  rw [← hg] at N0 ⊢
  clear hg
  have c0 := cell_of (i := 0) H0.out.py.par rfl
  have c1 := cell_of (i := 1) H0.out.py.par rfl
  rw [← XN.out] at c0
  obtain ⟨k0, k1, -⟩ := H0.out.py.row a _ XT.out
  go_quiet (fail)
  have H1 := hid (H0.out.keep (below_drewN (Below.refl w0.heap.size w0) nq))
  have N1 := hid (show NdV g (nodeL 0 0) (w0.drewN nq) from N0.out)
  have B1 := hid (below_drewN B0.out nq)
  obtain ⟨w1, hw1⟩ : ∃ w1, w1 = w0.drewN nq := ⟨_, rfl⟩
  rw [← hw1] at H1 N1 B1 ⊢
  clear c0 c1 k0 k1 H0 N0 B0 hw1
  go_wp2_with fail
  refine (XC.out _).mono ?_
  rintro e w2 ⟨rfl, rfl⟩
  go_wp2_with fail
  refine (must_yes _).mono ?_
  rintro e w2 ⟨rfl, rfl⟩
  have c1 := cell_of (i := 1) H1.out.py.par rfl
  have f1 := free_of (i := 1) H1.out.py.par
  have H2 := hid (show Pz T p tb tf tc (a + 1) (w1.setCell ⟨p, 1, none⟩ (.int .i64 ((a : Int) + 1))) from H1.out.step (a + 1))
  have N2 := hid (show NdV g (nodeL 0 0) (w1.setCell ⟨p, 1, none⟩ (.int .i64 ((a : Int) + 1))) from heap_setCell_far N1.out (Nat.ne_of_gt HG.out.2) _)
  have C2 := hid (show Chg [p] w (w1.setCell ⟨p, 1, none⟩ (.int .i64 ((a : Int) + 1))) from (Chg.of_below (F := [p]) B1.out).setCell (.inl (by simp)) _)
  go_wp2_with fail
  generalize World.setCell _ _ _ = w2 at H2 N2 C2 ⊢
  clear H1 N1 B1 c1 f1
  refine (has_some H2.out 40 X40.out).mono ?_
  rintro e w3 ⟨rfl, h3, hc3⟩
  have H3 := hid h3
  have N3 := hid (show NdV g (nodeL 0 0) w3 from hc3.heap N2.out (by have := HG.out.2; simp only [List.mem_singleton]; omega))
  have C3 := hid (C2.out.trans hc3 (by simp))
  clear h3 hc3 H2 N2 C2
  go_wp2_with fail
  refine (must_yes _).mono ?_
  rintro e w4 ⟨rfl, rfl⟩
  go_wp2_with fail
  refine (XG.out _ H3.out.en.tabs).mono ?_
  rintro e w4 ⟨rfl, b4⟩
  have H4 := hid (H3.out.keep b4)
  have N4 := hid (show NdV g (nodeL 0 0) w4 from (b4.block _ (heap_lt N3.out)).trans N3.out)
  have C4 := hid (C3.out.trans (Chg.of_below (F := []) b4) (by simp))
  clear b4 H3 N3 C3
  go_wp2_with fail
  refine (XG.out _ H4.out.en.tabs).mono ?_
  rintro e w5 ⟨rfl, b5⟩
  have H5 := hid (H4.out.keep b5)
  have N5 := hid (show NdV g (nodeL 0 0) w5 from (b5.block _ (heap_lt N4.out)).trans N4.out)
  have C5 := hid (C4.out.trans (Chg.of_below (F := []) b5) (by simp))
  clear b5 H4 N4 C4
  go_wp2_with fail
  refine (XA.out _ _ _ _ _ H5.out).mono ?_
  rintro e w6 ⟨ao, cc, rfl, hk, h6, hc6⟩
  obtain ⟨m, hm⟩ : ∃ m, m = f.len := ⟨_, rfl⟩
  have XM := hid hm
  have H6 := hid h6
  have N6 := hid (show NdV g (nodeL 0 0) w6 from hc6.heap N5.out (by have := HG.out.2; simp only [List.mem_singleton]; omega))
  have C6 := hid (C5.out.trans hc6 (by simp))
  have hgs : g < w5.heap.size := heap_lt N5.out
  have K6 := hid (And.intro hgs hk)
  have S5 := hid C5.out.size
  rw [← hm]
  clear h6 hc6 hk hm hgs H5 N5 C5
  go_wp2_with (refine wpList_store_row rfl 79 _ _ rfl g ((owCall S).cells (.slice ao m cc)).toArray rfl rfl 79 _ N6.out (node_info 0 0) (by rfl) (ow_one (owCall S) ao m cc) ?_)
  refine bodyPost_ret (v := .agg ((owCall S).cells (.slice ao m cc)).toArray) (results_cell_row rfl _ _ g 79 ((owCall S).cells (.slice ao m cc)).toArray (0, 0) _ rfl (heap_setRow_at N6.out) Tryz.underlying79 rfl (ow_info (owCall S) (.slice ao m cc))) rfl ?_
  refine ⟨ao, cc, by rw [XM.out], ?_, H6.out.row HG.out.2 _, C6.out.setRow (.inr (Nat.le_of_eq HG.out.1.symm)) _⟩
  exact (K6.out.2.put (Nat.not_le.2 K6.out.1) _).mono (fun x hx => Nat.le_trans S5.out hx)
end
end Go.Proofs.YtpcjfgihglfdgaaGreatDoor

namespace Go.Proofs.YtpcjfgihglfdgaaGreatDoor
open Go.RowKit Go.Lib

/-- how deep nodes are, how many they are; of the first ones of a row -/
def dF : Fo → Nat
  | .nil => 0
  | .cons _ k r => max (dF k + 1) (dF r)
def mF : Fo → Nat
  | .nil => 0
  | .cons _ k r => mF k + 1 + mF r
def dP : Fo → Nat → Nat
  | .nil, _ => 0
  | .cons _ _ _, 0 => 0
  | .cons _ k r, j + 1 => max (dF k + 1) (dP r j)
def mP : Fo → Nat → Nat
  | .nil, _ => 0
  | .cons _ _ _, 0 => 0
  | .cons _ k r, j + 1 => mF k + 1 + mP r j
theorem dP_zero (f : Fo) : dP f 0 = 0 := by cases f <;> rfl
theorem mP_zero (f : Fo) : mP f 0 = 0 := by cases f <;> rfl
theorem dP_len (f : Fo) : dP f f.len = dF f := by
  induction f with
  | nil => rfl
  | cons o k r _ ih => rw [Fo.len, dP, ih, dF]
theorem mP_len (f : Fo) : mP f f.len = mF f := by
  induction f with
  | nil => rfl
  | cons o k r _ ih => rw [Fo.len, mP, ih, mF]
theorem dP_step {f : Fo} : ∀ {j : Nat} {o : Ow} {k : Fo}, f.get j = some (o, k) → dP f (j + 1) = max (dP f j) (dF k + 1) := by
  induction f with
  | nil => intro j o k h; cases h
  | cons o' k' r _ ih =>
    intro j o k h
    cases j with
    | zero =>
      have e : (o', k') = (o, k) := Option.some.inj h
      obtain ⟨rfl, rfl⟩ := Prod.mk.inj e
      show max (dF k' + 1) (dP r 0) = max 0 (dF k' + 1)
      rw [dP_zero]
      omega
    | succ j =>
      have := ih (j := j) h
      rw [dP, this, dP]
      omega
theorem mP_step {f : Fo} : ∀ {j : Nat} {o : Ow} {k : Fo}, f.get j = some (o, k) → mP f (j + 1) = mP f j + (mF k + 1) := by
  induction f with
  | nil => intro j o k h; cases h
  | cons o' k' r _ ih =>
    intro j o k h
    cases j with
    | zero =>
      have e : (o', k') = (o, k) := Option.some.inj h
      obtain ⟨rfl, rfl⟩ := Prod.mk.inj e
      show mF k' + 1 + mP r 0 = 0 + (mF k' + 1)
      rw [mP_zero]
      omega
    | succ j =>
      have := ih (j := j) h
      rw [mP, this, mP]
      omega
theorem dP_le {f : Fo} (j : Nat) : dP f j ≤ dF f := by
  induction f generalizing j with
  | nil => exact Nat.le_refl _
  | cons o k r _ ih =>
    cases j with
    | zero => exact Nat.zero_le _
    | succ j => have := ih j; rw [dP, dF]; omega
theorem mP_le {f : Fo} (j : Nat) : mP f j ≤ mF f := by
  induction f generalizing j with
  | nil => exact Nat.le_refl _
  | cons o k r _ ih =>
    cases j with
    | zero => exact Nat.zero_le _
    | succ j => have := ih j; rw [mP, mF]; omega
theorem dF_le (f : Fo) : dF f ≤ mF f := by
  induction f with
  | nil => exact Nat.le_refl _
  | cons o k r ihk ihr => rw [dF, mF]; omega
theorem len_le (f : Fo) : f.len ≤ mF f := by
  induction f with
  | nil => exact Nat.le_refl _
  | cons o k r _ ihr => rw [Fo.len, mF]; omega
theorem get_le {f : Fo} : ∀ {j : Nat} {o : Ow} {k : Fo}, f.get j = some (o, k) → mF k + 1 ≤ mF f := by
  intro j o k h
  have h1 := mP_step h
  have h2 := mP_le (f := f) (j + 1)
  omega

/-- bare's and kids' contracts at a node -/
def BareN (o : Ow) (ks : Fo) : Prop := ∀ w B ao c, Tabs w → KidsV w B (.slice ao ks.len c) ks → Calls Tryz.prog 214 #[.agg (o.cells (.slice ao ks.len c)).toArray] w fun e w' => e = .returned (.bool true) ∧ Below w.heap.size w w'
def KidsN (o : Ow) (ks : Fo) : Prop := ∀ w ao c, Tabs w → Calls Tryz.prog 215 #[.agg (o.cells (.slice ao ks.len c)).toArray] w fun e w' => e = .returned (.bool true) ∧ Below w.heap.size w w'
/-- all nodes are as their kinds say -/
def FoOk : Fo → Prop
  | .nil => True
  | .cons o k r => (BareN o k ∧ KidsN o k) ∧ FoOk k ∧ FoOk r
def SizeOk (o : Ow) (ks : Fo) : Prop := ∀ w B ao c, Tabs w → KidsV w B (.slice ao ks.len c) ks → Calls Tryz.prog 153 #[.agg (o.cells (.slice ao ks.len c)).toArray] w fun e w' => e = .returned (.tuple #[.int .i64 (dF ks + 1 : Nat), .int .i64 (mF ks + 1 : Nat), .bool true]) ∧ Below w.heap.size w w'
/-- what stands while size goes over the kids -/
structure Sz (w : World) (ks : Fo) (b f : Nat) (B : Nat → Prop) (y : World) (j : Nat) : Prop where
  le : j ≤ ks.len
  at' : ks = .nil ∨ FoAt y B ks b f
  tabs : Tabs y
  low : Below w.heap.size w y
theorem Sz.keep {w y z : World} {ks : Fo} {b f j : Nat} {B : Nat → Prop} (h : Sz w ks b f B y j) (hb : Below y.heap.size y z) : Sz w ks b f B z j :=
  ⟨h.le, h.at'.imp id (fun q => q.keep hb), h.tabs.below hb, h.low.trans (hb.mono h.low.size)⟩
set_option maxRecDepth 20000 in
set_option maxHeartbeats 2000000 in
theorem size_step (o : Ow) (ks : Fo) (hm : mF ks ≤ 1000000) (hb : BareN o ks) (hk : KidsN o ks) (H : ∀ j o' k', ks.get j = some (o', k') → SizeOk o' k') : SizeOk o ks := by
  intro w B ao c hT hv
  obtain ⟨n, hn⟩ : ∃ n, n = ks.len := ⟨_, rfl⟩
  have XB := hid (fun w B ao c (hT : Tabs w) (hv : KidsV w B (.slice ao n c) ks) => show Calls Tryz.prog 214 #[.agg (o.cells (.slice ao n c)).toArray] w fun e w' => e = .returned (.bool true) ∧ Below w.heap.size w w' from by rw [hn] at hv ⊢; exact hb w B ao c hT hv)
  have XK := hid (fun w ao c (hT : Tabs w) => show Calls Tryz.prog 215 #[.agg (o.cells (.slice ao n c)).toArray] w fun e w' => e = .returned (.bool true) ∧ Below w.heap.size w w' from by rw [hn]; exact hk w ao c hT)
  have XH := hid H
  rw [← hn] at hv ⊢
  have A1 : NdV w.heap.size (o.cells (.slice ao n c)) (w.alloc (.cells (o.cells (.slice ao n c)).toArray 79)) := heap_alloc_new w _
  have B1 := hid ((Below.refl w.heap.size w).alloc (Nat.le_refl _) (.cells (o.cells (.slice ao n c)).toArray 79))
  have HA := hid A1
  have HT := hid hT
  have HV := hid hv
  have HN := hid hn
  have HM := hid hm
  clear A1 hT hv hb hk H hn hm
  go_enter Tryz.func153, Tryz.ntmps153
  go_wp2_with (refine wpList_load_row rfl 79 _ rfl w.heap.size rfl 79 _ (0, 0) _ HA.out Tryz.underlying79 rfl (ow_info o (.slice ao n c)) ?_)
  refine (XB.out _ B ao c (HT.out.below B1.out) (HV.out.keep B1.out)).mono ?_
  rintro e w1 ⟨rfl, b1⟩
  have B2 := hid (B1.out.trans (b1.mono B1.out.size))
  have HA2 := hid (show NdV w.heap.size (o.cells (.slice ao n c)) w1 from (b1.block _ (heap_lt HA.out)).trans HA.out)
  clear b1 HA B1
  go_wp2_with (refine wpList_load_row_w (by rfl) 79 _ rfl w.heap.size rfl 79 _ (0, 0) _ HA2.out Tryz.underlying79 rfl (ow_info o (.slice ao n c)) ?_)
  refine (XK.out _ ao c (HT.out.below B2.out)).mono ?_
  rintro e w2 ⟨rfl, b2⟩
  have B3 := hid (B2.out.trans (b2.mono B2.out.size))
  have a19 : w2.cell? ⟨w.heap.size, 19, none⟩ = some (.slice ao n c) := cell_of (show NdV w.heap.size (o.cells (.slice ao n c)) w2 from (b2.block _ (heap_lt HA2.out)).trans HA2.out) rfl
  clear b2 HA2 B2
  obtain ⟨b, f, hbf⟩ : ∃ b f, ks = .nil ∨ (ao = some ⟨b, f, none⟩ ∧ FoAt w B ks b f) := by
    obtain ⟨ao', c', e, h⟩ := HV.out
    rcases h with h | ⟨b', f', e', _, h⟩
    · exact ⟨0, 0, .inl h.1⟩
    · exact ⟨b', f', .inr ⟨by cases e; exact e'.1, h⟩⟩
  have HS := hid (show Sz w ks b f B w2 0 from ⟨Nat.zero_le _, hbf.imp id (fun q => q.2.keep B3.out), HT.out.below B3.out, B3.out⟩)
  have HBF := hid hbf
  clear hbf B3 HV HT XB XK
  have hsm : (n : Int) ≤ 1000000 := by
    have : ks.len ≤ mF ks := len_le ks
    have := HN.out
    have := HM.out
    omega
  go_wp2_with fail
  go_loopw [2, 3, 21] (fun v2 v3 v wr => ∃ j : Nat, v = .int .i64 j ∧ v2 = .int .i64 (dP ks j : Nat) ∧ v3 = .int .i64 (mP ks j : Nat) ∧ Sz w ks b f B wr j) (fun _ _ v _ => n - (intOf v).toNat)
  case atStart => exact ⟨0, rfl, by rw [dP_zero]; rfl, by rw [mP_zero]; rfl, HS.out⟩
  case round =>
    obtain ⟨j, rfl, rfl, rfl, hs⟩ := hrel
    have HS1 := hid hs
    have hjn : j ≤ n := by rw [HN.out]; exact hs.le
    clear hs HS
    rcases Nat.lt_or_ge j n with hlt | hge
    · obtain ⟨o', k', hg⟩ := Fo.get_of_lt (f := ks) (j := j) (by rw [← HN.out]; exact hlt)
      have hfo : FoAt wr B ks b f ∧ ao = some ⟨b, f, none⟩ := by
        rcases HBF.out with h | h
        · rw [h] at hg; cases hg
        · rcases HS1.out.at' with h2 | h2
          · rw [h2] at hg; cases hg
          · exact ⟨h2, h.1⟩
      obtain ⟨hfo, rfl⟩ := hfo
      obtain ⟨ao', c', h1, h2⟩ := hfo.get hg
      have HK := hid h2
      have d0 := dP_step hg
      have m0 := mP_step hg
      have d1 := dF_le k'
      have d2 := get_le hg
      have d3 := HM.out
      have d4 := dP_le (f := ks) j
      have d5 := dF_le ks
      have m4 := mP_le (f := ks) j
      have e1 : ((if (dP ks j : Int) < ((dF k' + 1 : Nat) : Int) then ((dF k' + 1 : Nat) : Int) else (dP ks j : Int))) = (dP ks (j + 1) : Nat) := by rw [d0]; split <;> omega
      obtain ⟨n', hn'⟩ : ∃ n', n' = k'.len := ⟨_, rfl⟩
      have HZ := hid (XH.out j o' k' hg)
      have XN := hid hn'
      rw [← hn'] at h1
      have HSI := hid (show (∀ (y : World), Tabs y → KidsV y B (.slice ao' n' c') k' → Calls Tryz.prog 153 #[.agg (o'.cells (.slice ao' n' c')).toArray] y fun e w' => e = .returned (.tuple #[.int .i64 (dF k' + 1 : Nat), .int .i64 (mF k' + 1 : Nat), .bool true]) ∧ Below y.heap.size y w') from fun y ht hk => by rw [XN.out] at hk ⊢; exact HZ.out y B ao' c' ht hk)
      have HK' := hid (show KidsV wr B (.slice ao' n' c') k' from by rw [XN.out]; exact HK.out)
      have HR := hid h1
      have A2 : NdV wr.heap.size (o'.cells (.slice ao' n' c')) ((wr.alloc (.cells (nodeL 0 0).toArray 79)).setRow wr.heap.size (o'.cells (.slice ao' n' c')).toArray) := heap_setRow_at (heap_alloc_new wr _)
      have HA2 := hid A2
      have b2 := (((Chg.refl [] wr).alloc (.cells (nodeL 0 0).toArray 79)).setRow (.inr (Nat.le_refl _)) (o'.cells (.slice ao' n' c')).toArray).nil_below
      have HK2 := hid (HK'.out.keep b2)
      have HS2 := hid (HS1.out.keep b2)
      have HM2 := hid (And.intro d0 (And.intro m0 (And.intro d3 (And.intro d5 (And.intro m4 (And.intro d4 (And.intro d1 d2)))))))
      clear h1 h2 hfo hn' A2 b2 HK HK' d0 m0 d1 d2 d3 d4 d5 m4 hg HS1 hjn HZ
      go_wp2_with (first | (refine wpList_load_mid rfl 79 _ rfl b (f + j * 20) rfl _ _ HR.out Tryz.underlying79 rfl (ow_info o' (.slice ao' n' c')) ?_) | (refine wpList_store_row rfl 79 _ _ rfl wr.heap.size (o'.cells (.slice ao' n' c')).toArray rfl rfl 79 _ (heap_alloc_new wr _) (node_info 0 0) (by rfl) (ow_one o' ao' n' c') ?_) | (refine wpList_load_row rfl 79 _ rfl wr.heap.size rfl 79 _ (0, 0) _ HA2.out Tryz.underlying79 rfl (ow_info o' (.slice ao' n' c')) ?_))
      refine (HSI.out _ HS2.out.tabs HK2.out).mono ?_
      intro e w3 hq
      obtain ⟨rfl, b3⟩ := hq
      have HS3 := hid (HS2.out.keep b3)
      clear b3 HS2 HA2 HK2 HSI
      go_wp2_with fail
      go_roundw
      case rel =>
        obtain ⟨d0, m0, d3, d5, m4, d4, d1, d2⟩ := HM2.out
        refine ⟨j + 1, by go_num, ?_, ?_, by rw [← HN.out]; exact hlt, HS3.out.at', HS3.out.tabs, HS3.out.low⟩
        · rw [d0]
          congr 1
          omega
        · rw [IntWalk.wrap64_in _ (by omega), m0]
          rfl
      case measure => simp [intOf]; omega
    · have hj : j = n := by omega
      subst hj
      go_wp2_with fail
      go_ret3
      have h1 := dP_len ks
      have h2 := mP_len ks
      rw [← HN.out] at h1 h2
      have h3 := dF_le ks
      have h4 := HM.out
      refine ⟨?_, HS1.out.low⟩
      rw [h1, h2, IntWalk.wrap64_in _ (by omega), IntWalk.wrap64_in _ (by omega)]
      rfl
/-- all kids, and the tree itself -/
theorem size_all (f : Fo) : mF f ≤ 1000000 → FoOk f → ∀ (j : Nat) (o : Ow) (k : Fo), f.get j = some (o, k) → SizeOk o k := by
  induction f with
  | nil => intro _ _ j o k h; cases h
  | cons o' k' r ihk ihr =>
    intro hm hk j o k h
    obtain ⟨⟨h1, h2⟩, h3, h4⟩ := hk
    rw [mF] at hm
    cases j with
    | zero =>
      have e : (o', k') = (o, k) := Option.some.inj h
      obtain ⟨rfl, rfl⟩ := Prod.mk.inj e
      exact size_step o' k' (by omega) h1 h2 (ihk (by omega) h3)
    | succ j => exact ihr (by omega) h4 j o k h
end Go.Proofs.YtpcjfgihglfdgaaGreatDoor
