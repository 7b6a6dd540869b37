/- The finder's walk at a reference or a range. No condition. The finder's walk over a tree: what it hands to the round. No condition. Contracts of the iterator that the finder's areas hands back: whatever the loop's body keeps. No condition. -/
import Derived.Test.YtpcjfgihglfdgaaGreatDoorKChThoseW
import Derived.Test.YtpcjfgihglfdgaaGreatDoorKChCheck

namespace Go.Proofs.YtpcjfgihglfdgaaGreatDoor
open Go.RowKit Go.Lib
attribute [local go_sem] Oper.semAt_some wide_fn

theorem nd_to {z : World} {g : Nat} {o : Ow} {kv : Value} {tt : Int} (h : z.heap[g]? = some (.cells (o.cells kv).toArray 79 (0, 0))) (htr : o.tr = rfZ tt) : z.rangeAt g 12 (refC tt) :=
  row_mid h 12 (refC tt) (by intro j v hj; rcases j with _ | _ | _ | _ | _ | _ | j <;> first | (simp at hj; done) | simpa [htr] using hj)
theorem nd_ref {z : World} {g : Nat} {o : Ow} {kv : Value} {rr : Int} (h : z.heap[g]? = some (.cells (o.cells kv).toArray 79 (0, 0))) (hr : o.ref = rfZ rr) : z.rangeAt g 6 (refC rr) :=
  row_mid h 6 (refC rr) (by intro j v hj; rcases j with _ | _ | _ | _ | _ | _ | j <;> first | (simp at hj; done) | simpa [hr] using hj)
set_option maxRecDepth 20000 in
set_option maxHeartbeats 2000000 in
theorem walk_range {lp nB b off bc fb yb wb : Nat} (o : Ow) (rr tt : Nat) (hk : o.k = 6) (hr : o.ref = rfZ (rr : Int)) (htr : o.tr = rfZ (tt : Int)) (h : rr ≤ tt) (ht : tt < 200) (ao : Option Addr) (n c : Nat) (W : World) (hE : WkE b off bc fb yb wb lp W) (_hn : nB ≤ W.heap.size) (S : World → Prop)
    (hY : ∀ W1, Below W.heap.size W W1 → YieldAt Fence.wide 0 Tryz.prog lp #[arV (rr : Int) ((tt : Int) - (rr : Int) + 1)] W1 fun e W' => e = .returned (.bool true) ∧ S W' ∧ Soft nB W1 W') :
    CallsIn Fence.wide 1 Tryz.prog 52 #[.agg (o.cells (.slice ao n c)).toArray, .pointer (some ⟨fb, 0, none⟩), .pointer (some ⟨yb, 0, none⟩), .pointer (some ⟨wb, 0, none⟩)] W fun e W' => e = .returned (.bool true) ∧ S W' ∧ Soft nB W W' := by
  have HO := hid (fun w => one_ok b off bc rr tt h ht w)
  have g0 := heap_alloc_new W (.cells (o.cells (.slice ao n c)).toArray 79)
  have b0 := (Below.refl W.heap.size W).alloc (Nat.le_refl _) (.cells (o.cells (.slice ao n c)).toArray 79)
  have HE := hid (hE.soft (Soft.of_below (nB := nB) b0))
  have HY := hid hY
  have B0 := hid b0
  obtain ⟨g, hg⟩ : ∃ g, g = W.heap.size := ⟨_, rfl⟩
  clear hY hE b0 h ht
  refine callsIn_of_wp Tryz.func52 rfl trivial ?_ rfl
  simp only [Tryz.ntmps52, List.size_toArray, List.length_cons, List.length_nil, Nat.reduceAdd, Nat.reduceSub, Array.replicate_succ, Array.replicate_zero, List.push_toArray, List.append_toArray, List.nil_append, List.cons_append]
  have hmx : Tryz.prog.follows .mixedOrders = true := by kernel_rfl
  gi_wp2_with (refine stop_loadIn 77 _ rfl ?_)
  rw [← hg] at g0 ⊢
  have HG := hid hg
  clear hg
  generalize World.alloc _ _ = W0 at g0 HE B0 ⊢
  have R1 := hid (nd_to g0 htr)
  have k0 := cell_of (i := 0) g0 (v := .int .i64 6) (by simp [hk])
  have hs0 := heap_lt g0
  have g1 := heap_alloc_keep g0 (.cells (refC tt).toArray 77)
  have N1 := hid (heap_alloc_new W0 (.cells (refC tt).toArray 77))
  have HE1 := hid (HE.out.soft (Soft.of_below (nB := nB) ((Below.refl W0.heap.size W0).alloc (Nat.le_refl _) (.cells (refC tt).toArray 77))))
  have B1 := hid (B0.out.alloc B0.out.size (.cells (refC tt).toArray 77))
  have R2 := hid (nd_ref g1 hr)
  clear HE B0 g0 g1
  refine Stop.mk ?_
  gi_wp2_with (first | (refine wpListIn_load_mid rfl 77 _ rfl g 12 rfl (refC tt) _ R1.out Tryz.underlying77 rfl ref_size6 ?_) | (refine stop_loadIn 72 _ rfl ?_))
  obtain ⟨h1, hh⟩ : ∃ h1, h1 = W0.heap.size := ⟨_, rfl⟩
  rw [← hh] at N1 ⊢
  clear hh hs0 k0 R1
  change Stop (wpListIn Fence.wide 1 Tryz.prog _ _ _ _ (W0.alloc (.cells (refC tt).toArray 77)))
  generalize World.alloc _ _ = W1 at N1 HE1 B1 R2 ⊢
  refine Stop.mk ?_
  gi_wp2_with (first | (refine wpListIn_load_mid rfl 72 _ rfl fb 0 rfl (fndC b off bc).toList _ (row_mid HE1.out.f 0 _ (fun j v hj => by simpa using hj)) Tryz.underlying72 rfl (fnd_info b off bc) ?_) | (refine wpListIn_load_mid rfl 77 _ rfl g 6 rfl (refC rr) _ R2.out Tryz.underlying77 rfl ref_size6 ?_) | (refine wpListIn_load_mid rfl 77 _ rfl h1 0 rfl (refC tt) _ (row_mid N1.out 0 _ (fun j v hj => by simpa using hj)) Tryz.underlying77 rfl ref_size6 ?_))
  refine (callsIn_wide.2 (HO.out _)).mono ?_
  rintro e W2 ⟨rfl, b2⟩
  obtain ⟨x, hx⟩ : ∃ x : Int, x = (tt : Int) - (rr : Int) + 1 := ⟨_, rfl⟩
  rw [← hx] at HY ⊢
  clear hx HO R2 N1
  have b3 := ((Below.refl W2.heap.size W2).alloc (Nat.le_refl _) (.cells (arCs (rr : Int) x) 62))
  have HE3 := HE1.out.soft (Soft.of_below (nB := nB) (b2.trans (b3.mono b2.size)))
  have y0 := cell_of (i := 0) HE3.y rfl
  have bb : Below W.heap.size W (W2.alloc (.cells (arCs (rr : Int) x) 62)) := B1.out.trans ((b2.trans (b3.mono b2.size)).mono B1.out.size)
  obtain ⟨fn, tmps, assign, body, hy, hR⟩ := HY.out _ bb
  have HR := hid hR
  have BB := hid bb
  clear hR bb b3 HE3 b2 HE1 B1 HY
  gi_wp2_with fail
  refine HR.out.mono ?_
  rintro e W' ⟨rfl, hs, hsoft⟩
  clear y0 hy
  gi_wp2_with fail
  go_ret
  exact ⟨rfl, hs, (Soft.of_below BB.out).trans hsoft⟩
set_option maxRecDepth 20000 in
set_option maxHeartbeats 2000000 in
theorem walk_ref {lp nB b off bc fb yb wb : Nat} (o : Ow) (rr : Nat) (tz : Int) (hk : o.k = 5) (hr : o.ref = rfZ (rr : Int)) (htr : o.tr = rfZ tz) (h : rr < 200) (ao : Option Addr) (n c : Nat) (W : World) (hE : WkE b off bc fb yb wb lp W) (_hn : nB ≤ W.heap.size) (S : World → Prop)
    (hY : ∀ W1, Below W.heap.size W W1 → YieldAt Fence.wide 0 Tryz.prog lp #[arV (rr : Int) 1] W1 fun e W' => e = .returned (.bool true) ∧ S W' ∧ Soft nB W1 W') :
    CallsIn Fence.wide 1 Tryz.prog 52 #[.agg (o.cells (.slice ao n c)).toArray, .pointer (some ⟨fb, 0, none⟩), .pointer (some ⟨yb, 0, none⟩), .pointer (some ⟨wb, 0, none⟩)] W fun e W' => e = .returned (.bool true) ∧ S W' ∧ Soft nB W W' := by
  have HO := hid (fun w => show Calls Tryz.prog 53 #[.agg (fndC b off bc), .agg (refC rr).toArray, .agg (refC rr).toArray] w fun e w' => e = .returned (.tuple #[arV (rr : Int) 1, .bool true]) ∧ Below w.heap.size w w' from by
    have := one_ok b off bc rr rr (Nat.le_refl _) h w
    rw [show (rr : Int) - (rr : Int) + 1 = 1 by omega] at this
    exact this)
  have g0 := heap_alloc_new W (.cells (o.cells (.slice ao n c)).toArray 79)
  have b0 := (Below.refl W.heap.size W).alloc (Nat.le_refl _) (.cells (o.cells (.slice ao n c)).toArray 79)
  have HE := hid (hE.soft (Soft.of_below (nB := nB) b0))
  have HY := hid hY
  have B0 := hid b0
  obtain ⟨g, hg⟩ : ∃ g, g = W.heap.size := ⟨_, rfl⟩
  clear hY hE b0 h
  refine callsIn_of_wp Tryz.func52 rfl trivial ?_ rfl
  simp only [Tryz.ntmps52, List.size_toArray, List.length_cons, List.length_nil, Nat.reduceAdd, Nat.reduceSub, Array.replicate_succ, Array.replicate_zero, List.push_toArray, List.append_toArray, List.nil_append, List.cons_append]
  have hmx : Tryz.prog.follows .mixedOrders = true := by kernel_rfl
  gi_wp2_with (refine stop_loadIn 77 _ rfl ?_)
  rw [← hg] at g0 ⊢
  have HG := hid hg
  clear hg
  generalize World.alloc _ _ = W0 at g0 HE B0 ⊢
  have R1 := hid (nd_to g0 htr)
  have k0 := cell_of (i := 0) g0 (v := .int .i64 5) (by simp [hk])
  have hs0 := heap_lt g0
  have g1 := heap_alloc_keep g0 (.cells (refC tz).toArray 77)
  have N1 := hid (heap_alloc_new W0 (.cells (refC tz).toArray 77))
  have HE1 := hid (HE.out.soft (Soft.of_below (nB := nB) ((Below.refl W0.heap.size W0).alloc (Nat.le_refl _) (.cells (refC tz).toArray 77))))
  have B1 := hid (B0.out.alloc B0.out.size (.cells (refC tz).toArray 77))
  have R2 := hid (nd_ref g1 hr)
  have GN := hid g1
  have B0s := hid (show W.heap.size ≤ W0.heap.size ∧ g < W0.heap.size from ⟨B0.out.size, hs0⟩)
  clear HE B0 g0 g1
  refine Stop.mk ?_
  gi_wp2_with (first | (refine wpListIn_load_mid rfl 77 _ rfl g 12 rfl (refC tz) _ R1.out Tryz.underlying77 rfl ref_size6 ?_) | (refine stop_loadIn 77 _ rfl ?_))
  obtain ⟨h1, hh⟩ : ∃ h1, h1 = W0.heap.size := ⟨_, rfl⟩
  rw [← hh] at N1 ⊢
  have HH := hid hh
  clear hh hs0 k0 R1
  change Stop (wpListIn Fence.wide 1 Tryz.prog _ _ _ _ (W0.alloc (.cells (refC tz).toArray 77)))
  generalize World.alloc _ _ = W1 at N1 HE1 B1 R2 GN ⊢
  refine Stop.mk ?_
  have b5 : Below W.heap.size W (W1.setRow h1 (refC rr).toArray) := ((Chg.of_below (F := []) B1.out).setRow (.inr (by have := B0s.out; have := HH.out; omega)) _).nil_below
  have N5 := hid (heap_setRow_at (cs := (refC rr).toArray) N1.out)
  have hgh : g ≠ h1 := by have := B0s.out; have := HH.out; omega
  have G5 := hid (heap_setRow_far GN.out hgh (refC rr).toArray)
  clear hgh
  have HE5 := hid (show WkE b off bc fb yb wb lp (W1.setRow h1 (refC rr).toArray) from ⟨heap_setRow_far HE1.out.f (heap_ne HE1.out.f N1.out (by decide)) _, heap_setRow_far HE1.out.y (heap_ne HE1.out.y N1.out (by decide)) _, heap_setRow_far HE1.out.k (heap_ne HE1.out.k N1.out (by decide)) _⟩)
  have B5 := hid b5
  clear b5
  gi_wp2_with (first | (refine wpListIn_load_mid rfl 77 _ rfl g 6 rfl (refC rr) _ R2.out Tryz.underlying77 rfl ref_size6 ?_) | (refine wpListIn_store_row rfl 77 _ _ rfl h1 (refC rr).toArray rfl rfl 77 _ N1.out ref_size6 (by rfl) (by simp [Value.oneCell']) ?_) | (refine stop_loadIn 72 _ rfl ?_))
  clear R2 N1 HE1 B1 GN
  generalize World.setRow W1 _ _ = W5 at N5 G5 HE5 B5 ⊢
  have R2 := hid (nd_ref G5.out hr)
  clear G5
  refine Stop.mk ?_
  gi_wp2_with (first | (refine wpListIn_load_mid rfl 72 _ rfl fb 0 rfl (fndC b off bc).toList _ (row_mid HE5.out.f 0 _ (fun j v hj => by simpa using hj)) Tryz.underlying72 rfl (fnd_info b off bc) ?_) | (refine wpListIn_load_mid rfl 77 _ rfl g 6 rfl (refC rr) _ R2.out Tryz.underlying77 rfl ref_size6 ?_) | (refine wpListIn_load_mid rfl 77 _ rfl h1 0 rfl (refC rr) _ (row_mid N5.out 0 _ (fun j v hj => by simpa using hj)) Tryz.underlying77 rfl ref_size6 ?_))
  refine (callsIn_wide.2 (HO.out _)).mono ?_
  rintro e W2 ⟨rfl, b2⟩
  clear HO R2 N5
  have b3 := ((Below.refl W2.heap.size W2).alloc (Nat.le_refl _) (.cells (arCs (rr : Int) 1) 62))
  have HE3 := HE5.out.soft (Soft.of_below (nB := nB) (b2.trans (b3.mono b2.size)))
  have y0 := cell_of (i := 0) HE3.y rfl
  have bb : Below W.heap.size W (W2.alloc (.cells (arCs (rr : Int) 1) 62)) := B5.out.trans ((b2.trans (b3.mono b2.size)).mono B5.out.size)
  obtain ⟨fn, tmps, assign, body, hy, hR⟩ := HY.out _ bb
  have HR := hid hR
  have BB := hid bb
  clear hR bb b3 HE3 b2 HE5 B5 HY
  gi_wp2_with fail
  refine HR.out.mono ?_
  rintro e W' ⟨rfl, hs, hsoft⟩
  clear y0 hy
  gi_wp2_with fail
  go_ret
  exact ⟨rfl, hs, (Soft.of_below BB.out).trans hsoft⟩
end Go.Proofs.YtpcjfgihglfdgaaGreatDoor

namespace Go.Proofs.YtpcjfgihglfdgaaGreatDoor
open Go.RowKit Go.Lib

/-- the areas of a tree: rows and how many -/
def arsF : Fo → List (Int × Int)
  | .nil => []
  | .cons o k r => (if o.k = 5 then [(o.ref.row, 1)] else if o.k = 6 then [(o.ref.row, o.tr.row - o.ref.row + 1)] else arsF k) ++ arsF r
def arsO (o : Ow) (ks : Fo) : List (Int × Int) := if o.k = 5 then [(o.ref.row, 1)] else if o.k = 6 then [(o.ref.row, o.tr.row - o.ref.row + 1)] else arsF ks
theorem arsF_cons (o : Ow) (k r : Fo) : arsF (.cons o k r) = arsO o k ++ arsF r := rfl
theorem arsF_app : ∀ f g : Fo, arsF (f.app g) = arsF f ++ arsF g
  | .nil, g => rfl
  | .cons o k r, g => by
    show arsF (.cons o k (r.app g)) = _
    rw [arsF_cons, arsF_app r g, arsF_cons, List.append_assoc]
theorem arsF_step {f : Fo} {j : Nat} {o : Ow} {k : Fo} (h : f.get j = some (o, k)) : arsF (f.take (j + 1)) = arsF (f.take j) ++ arsO o k := by
  rw [Fo.take_step h, arsF_app, arsF_cons]
  simp [arsF]
theorem arsF_split {f : Fo} : ∀ {j : Nat} {o : Ow} {k : Fo}, f.get j = some (o, k) → ∃ post, arsF f = arsF (f.take j) ++ (arsO o k ++ post) := by
  induction f with
  | nil => intro j o k h; cases h
  | cons o' k' r _ ih =>
    intro j o k h
    cases j with
    | zero =>
      have e : o' = o ∧ k' = k := by simpa [Fo.get] using h
      obtain ⟨rfl, rfl⟩ := e
      exact ⟨arsF r, by rw [Fo.take_zero, arsF_cons]; rfl⟩
    | succ j =>
      obtain ⟨post, hp⟩ := ih (j := j) h
      exact ⟨post, by show arsF (.cons o' k' r) = arsF (.cons o' k' (r.take j)) ++ _; rw [arsF_cons, arsF_cons, hp, List.append_assoc]⟩
/-- references are to the first column -/
def ArW (o : Ow) : Prop := (o.k = 5 → ∃ (r : Nat) (t : Int), o.ref = rfZ r ∧ o.tr = rfZ t ∧ r < 200) ∧ (o.k = 6 → ∃ r t : Nat, o.ref = rfZ r ∧ o.tr = rfZ t ∧ r ≤ t ∧ t < 200)
def ArF : Fo → Prop
  | .nil => True
  | .cons o k r => (ArW o ∧ k.len ≤ 1000 ∧ ArF k) ∧ ArF r
theorem KidsV.soft {nB : Nat} {W W' : World} {kv : Value} {ks : Fo} (h : KidsV W (· < nB) kv ks) (hs : Soft nB W W') : KidsV W' (· < nB) kv ks := by
  obtain ⟨F, hc, hF⟩ := hs
  exact h.chg hc (fun x hx => by have := (hF x hx).1; omega)
/-- the walk at a node hands its areas over -/
def Wk (b off bc fb yb wb lp nB : Nat) (all : List (Int × Int)) (St : List (Int × Int) → World → Prop) (o : Ow) (ks : Fo) : Prop :=
  ∀ (pre : List (Int × Int)) (W : World) (ao : Option Addr) (c : Nat), St pre W → WkE b off bc fb yb wb lp W → KidsV W (· < nB) (.slice ao ks.len c) ks → nB ≤ W.heap.size → (∃ post, pre ++ (arsO o ks ++ post) = all) →
    Calls Tryz.prog 52 #[.agg (o.cells (.slice ao ks.len c)).toArray, .pointer (some ⟨fb, 0, none⟩), .pointer (some ⟨yb, 0, none⟩), .pointer (some ⟨wb, 0, none⟩)] W fun e W' =>
      e = .returned (.bool true) ∧ St (pre ++ arsO o ks) W' ∧ Soft nB W W'
structure WkL (b off bc fb yb wb lp nB : Nat) (St : List (Int × Int) → World → Prop) (pre : List (Int × Int)) (ks : Fo) (kv : Value) (W : World) (j : Nat) (wr : World) : Prop where
  le : j ≤ ks.len
  st : St (pre ++ arsF (ks.take j)) wr
  env : WkE b off bc fb yb wb lp wr
  kv : KidsV wr (· < nB) kv ks
  so : Soft nB W wr
theorem WkL.below {b off bc fb yb wb lp nB : Nat} {St : List (Int × Int) → World → Prop} {pre : List (Int × Int)} {ks : Fo} {kv : Value} {W wr z : World} {j : Nat} (hS : ∀ pre W W', St pre W → Below W.heap.size W W' → St pre W')
    (h : WkL b off bc fb yb wb lp nB St pre ks kv W j wr) (hb : Below wr.heap.size wr z) : WkL b off bc fb yb wb lp nB St pre ks kv W j z :=
  ⟨h.le, hS _ _ _ h.st hb, h.env.soft (Soft.of_below (nB := nB) hb), h.kv.keep hb, h.so.trans (Soft.of_below hb)⟩

set_option maxRecDepth 20000 in
set_option maxHeartbeats 2000000 in
theorem walk_step {b off bc fb yb wb lp nB : Nat} {all : List (Int × Int)} {St : List (Int × Int) → World → Prop} (hS : ∀ pre W W', St pre W → Below W.heap.size W W' → St pre W') (o : Ow) (ks : Fo) (h5 : ¬ o.k = 5) (h6 : ¬ o.k = 6) (hm : ks.len ≤ 1000)
    (H : ∀ j o' k', ks.get j = some (o', k') → Wk b off bc fb yb wb lp nB all St o' k') : Wk b off bc fb yb wb lp nB all St o ks := by
  intro pre W ao c hst hE hv hn hall
  have ea : arsO o ks = arsF ks := by unfold arsO; rw [if_neg h5, if_neg h6]
  rw [ea] at hall ⊢
  obtain ⟨n, hnn⟩ : ∃ n, n = ks.len := ⟨_, rfl⟩
  have HN := hid hnn
  have HH := hid H
  have HS := hid hS
  have HM := hid hm
  have HA := hid hall
  have HNB := hid hn
  rw [← hnn] at hv ⊢
  have g0 := heap_alloc_new W (.cells (o.cells (.slice ao n c)).toArray 79)
  have b0 := (Below.refl W.heap.size W).alloc (Nat.le_refl _) (.cells (o.cells (.slice ao n c)).toArray 79)
  have L0 := hid (show WkL b off bc fb yb wb lp nB St pre ks (.slice ao n c) W 0 (W.alloc (.cells (o.cells (.slice ao n c)).toArray 79)) from
    WkL.below hS ⟨Nat.zero_le _, by rw [Fo.take_zero]; simpa [arsF] using hst, hE, hv, Soft.of_below (Below.refl _ _)⟩ b0)
  obtain ⟨g, hg⟩ : ∃ g, g = W.heap.size := ⟨_, rfl⟩
  clear hst hE hv hn hall H hS hm hnn ea b0
  go_enter Tryz.func52, Tryz.ntmps52
  go_wp2_with (refine stop_load 77 _ rfl ?_)
  rw [← hg] at g0 ⊢
  have HG := hid hg
  clear hg
  generalize World.alloc _ _ = W0 at g0 L0 ⊢
  have R1 := hid (show W0.rangeAt g 12 o.tr.cells from row_mid g0 12 o.tr.cells (by intro j v hj; rcases j with _ | _ | _ | _ | _ | _ | j <;> first | (simp at hj; done) | simpa using hj))
  have k0 := cell_of (i := 0) g0 (v := .int .i64 o.k) rfl
  have k19 := cell_of (i := 19) g0 (v := .slice ao n c) rfl
  have hs0 := heap_lt g0
  have L1 := hid (WkL.below HS.out L0.out ((Below.refl W0.heap.size W0).alloc (Nat.le_refl _) (.cells o.tr.cells.toArray 77)))
  clear g0 L0
  refine Stop.mk ?_
  go_wp2_with (first | (refine wpList_load_mid rfl 77 _ rfl g 12 rfl o.tr.cells _ R1.out Tryz.underlying77 rfl ref_size6 ?_))
  rw [show (o.k == 5) = false from by simp [h5], show (o.k == 6) = false from by simp [h6]]
  clear R1 k0 k19 hs0 h5 h6
  have hsm : (n : Int) ≤ 1000 := by have := HN.out; have := HM.out; omega
  change Code.wp _ _ _ _ (W0.alloc (.cells o.tr.cells.toArray 77))
  generalize World.alloc W0 _ = W1 at L1 ⊢
  rename_i K hK
  have HC := hid hK
  clear hK
  go_loopw [39] (fun v wr => ∃ j : Nat, v = .int .i64 j ∧ WkL b off bc fb yb wb lp nB St pre ks (.slice ao n c) W j wr) (fun v _ => n - (intOf v).toNat)
  case atStart => exact ⟨0, rfl, L1.out⟩
  case round =>
    obtain ⟨j, rfl, hl⟩ := hrel
    have HL := hid hl
    have hjn : j ≤ n := by rw [HN.out]; exact hl.le
    clear hl L1
    rcases Nat.lt_or_ge j n with hlt | hge
    · obtain ⟨o', k', hget⟩ := Fo.get_of_lt (f := ks) (j := j) (by rw [← HN.out]; exact hlt)
      obtain ⟨b1, f1, e1, hfo⟩ : ∃ b1 f1, ao = some ⟨b1, f1, none⟩ ∧ FoAt wr (· < nB) ks b1 f1 := by
        obtain ⟨ao1, c1, e, h⟩ := HL.out.kv
        rcases h with h | ⟨b', f', e', _, h⟩
        · rw [h.1] at hget; cases hget
        · cases e; exact ⟨b', f', e'.1, h⟩
      subst e1
      obtain ⟨ao', c', h1, h2⟩ := hfo.get hget
      obtain ⟨n', hn'⟩ : ∃ n', n' = k'.len := ⟨_, rfl⟩
      rw [← hn'] at h1
      have HR := hid h1
      have A2 : NdV wr.heap.size (o'.cells (.slice ao' n' c')) ((wr.alloc (.cells (nodeL 0 0).toArray 79)).setRow wr.heap.size (o'.cells (.slice ao' n' c')).toArray) := heap_setRow_at (heap_alloc_new wr _)
      have b2 := (((Chg.refl [] wr).alloc (.cells (nodeL 0 0).toArray 79)).setRow (.inr (Nat.le_refl _)) (o'.cells (.slice ao' n' c')).toArray).nil_below
      have L2 := WkL.below HS.out HL.out b2
      have HV2 := h2.keep b2
      obtain ⟨post, hpost⟩ := HA.out
      obtain ⟨post2, hp2⟩ := arsF_split hget
      have hcall := HH.out j o' k' hget (pre ++ arsF (ks.take j)) _ ao' c' L2.st L2.env HV2 (by
        obtain ⟨F, hc, hF⟩ := L2.so
        have := hc.size
        have h3 := HNB.out
        omega) ⟨post2 ++ post, by rw [← hpost, hp2]; simp⟩
      rw [← hn'] at hcall
      have HCALL := hid hcall
      have HA2 := hid A2
      have L2' := hid L2
      have HST := hid (arsF_step hget)
      have w0 := cell_of (i := 0) L2.env.k rfl
      clear h1 h2 hfo hn' A2 b2 HL hget HV2 L2 hcall hpost hp2 hjn
      go_wp2_with (first | (refine wpList_load_mid rfl 79 _ rfl b1 (f1 + j * 20) rfl _ _ HR.out Tryz.underlying79 rfl (ow_info o' (.slice ao' n' c')) ?_) | (refine wpList_store_row rfl 79 _ _ rfl wr.heap.size (o'.cells (.slice ao' n' c')).toArray rfl rfl 79 _ (heap_alloc_new wr _) (node_info 0 0) (by rfl) (ow_one o' ao' n' c') ?_) | (refine wpList_load_row rfl 79 _ rfl wr.heap.size rfl 79 _ (0, 0) _ HA2.out Tryz.underlying79 rfl (ow_info o' (.slice ao' n' c')) ?_))
      refine HCALL.out.mono ?_
      rintro e w3 ⟨rfl, hs3, so3⟩
      have L3 := hid (show WkL b off bc fb yb wb lp nB St pre ks (.slice (some ⟨b1, f1, none⟩) n c) W (j + 1) w3 from ⟨by rw [← HN.out]; exact hlt, by rw [HST.out, ← List.append_assoc]; exact hs3, L2'.out.env.soft so3, L2'.out.kv.soft so3, L2'.out.so.trans so3⟩)
      clear hs3 so3 L2' HCALL HA2 HR w0
      go_wp2_with fail
      go_roundw
      case rel => exact ⟨j + 1, by simp, L3.out⟩
      case measure => simp [intOf]; omega
    · have hj : j = n := by omega
      subst hj
      clear hjn hge
      go_wp2_with fail
      refine HC.out _ _ ?_
      go_wp2_with fail
      go_ret
      have := HL.out.st
      rw [HN.out, Fo.take_len] at this
      exact ⟨rfl, this, HL.out.so⟩
end Go.Proofs.YtpcjfgihglfdgaaGreatDoor

namespace Go.Proofs.YtpcjfgihglfdgaaGreatDoor
open Go.RowKit Go.Lib

section
variable {b off bc fb yb wb lp nB : Nat} {all : List (Int × Int)} {St : List (Int × Int) → World → Prop}
theorem walk_leaf (hS : ∀ pre W W', St pre W → Below W.heap.size W W' → St pre W')
    (hY : ∀ pre x W, St pre W → (∃ post, pre ++ x :: post = all) → YieldAt Fence.wide 0 Tryz.prog lp #[arV x.1 x.2] W fun e W' => e = .returned (.bool true) ∧ St (pre ++ [x]) W' ∧ Soft nB W W')
    (o : Ow) (ks : Fo) (ha : ArW o) (hm : ks.len ≤ 1000) (H : ∀ j o' k', ks.get j = some (o', k') → Wk b off bc fb yb wb lp nB all St o' k') : Wk b off bc fb yb wb lp nB all St o ks := by
  by_cases h5 : o.k = 5
  · intro pre W ao c hst hE hv hn hall
    obtain ⟨r, t, hr, ht, hlt⟩ := ha.1 h5
    have ea : arsO o ks = [((r : Int), 1)] := by unfold arsO; rw [if_pos h5, hr]
    rw [ea] at hall ⊢
    obtain ⟨post, hp⟩ := hall
    exact callsIn_wide.1 (walk_ref o r t h5 hr ht hlt ao ks.len c W hE hn (St (pre ++ [((r : Int), 1)])) (fun W1 b1 => hY pre ((r : Int), 1) W1 (hS _ _ _ hst b1) ⟨post, by simpa using hp⟩))
  · by_cases h6 : o.k = 6
    · intro pre W ao c hst hE hv hn hall
      obtain ⟨r, t, hr, ht, hle, hlt⟩ := ha.2 h6
      have ea : arsO o ks = [((r : Int), (t : Int) - (r : Int) + 1)] := by unfold arsO; rw [if_neg h5, if_pos h6, hr, ht]
      rw [ea] at hall ⊢
      obtain ⟨post, hp⟩ := hall
      exact callsIn_wide.1 (walk_range o r t h6 hr ht hle hlt ao ks.len c W hE hn (St (pre ++ [((r : Int), (t : Int) - (r : Int) + 1)])) (fun W1 b1 => hY pre ((r : Int), (t : Int) - (r : Int) + 1) W1 (hS _ _ _ hst b1) ⟨post, by simpa using hp⟩))
    · exact walk_step hS o ks h5 h6 hm H
theorem walk_all (hS : ∀ pre W W', St pre W → Below W.heap.size W W' → St pre W')
    (hY : ∀ pre x W, St pre W → (∃ post, pre ++ x :: post = all) → YieldAt Fence.wide 0 Tryz.prog lp #[arV x.1 x.2] W fun e W' => e = .returned (.bool true) ∧ St (pre ++ [x]) W' ∧ Soft nB W W') (f : Fo) :
    ArF f → ∀ (j : Nat) (o : Ow) (k : Fo), f.get j = some (o, k) → Wk b off bc fb yb wb lp nB all St o k := by
  induction f with
  | nil => intro _ j o k h; cases h
  | cons o' k' r ihk ihr =>
    intro ha j o k h
    cases j with
    | zero =>
      have e : o' = o ∧ k' = k := by simpa [Fo.get] using h
      obtain ⟨rfl, rfl⟩ := e
      exact walk_leaf hS hY o' k' ha.1.1 ha.1.2.1 (ihk ha.1.2.2)
    | succ j => exact ihr ha.2 j o k h
end
set_option maxHeartbeats 400000 in
theorem areas_any (fC : Array Value) (nC : List Value) (w : World) : Calls Tryz.prog 17 #[.agg fC, .agg nC.toArray] w fun e w' =>
    e = .returned (.func (.func 51) #[] #[.pointer (some ⟨w.heap.size, 0, none⟩), .pointer (some ⟨w.heap.size + 1, 0, none⟩)]) ∧ w' = (w.alloc (.cells fC 72)).alloc (.cells nC.toArray 79) := by
  go_enter Tryz.func17, Tryz.ntmps17
  go_wp2_with fail
  go_ret
  exact ⟨rfl, rfl⟩
theorem wpList_stop_makeFunc {P : Program} {ops : Array Oper} {rest : List Oper} {op : Oper} {a : Act} {w : World} {Q : Exit → Act → World → Prop} (f : Fn) (ts fs : Array Operand) (_ : op.op = .makeFunc f ts fs) (h : Stop (wpList P ops Q (op :: rest) a w)) : wpList P ops Q (op :: rest) a w := h.out
set_option maxRecDepth 20000 in
set_option maxHeartbeats 1000000 in
theorem areas1_any {b off bc fb nb lp nB : Nat} {St : List (Int × Int) → World → Prop} (o : Ow) (ks : Fo) (ha : ArW o) (hm : ks.len ≤ 1000) (hks : ArF ks)
    (hS : ∀ pre W W', St pre W → Below W.heap.size W W' → St pre W')
    (hY : ∀ pre x W, St pre W → (∃ post, pre ++ x :: post = arsO o ks) → YieldAt Fence.wide 0 Tryz.prog lp #[arV x.1 x.2] W fun e W' => e = .returned (.bool true) ∧ St (pre ++ [x]) W' ∧ Soft nB W W')
    (W : World) (h0 : St [] W) (hf : W.heap[fb]? = some (.cells (fndC b off bc) 72 (0, 0))) {ao : Option Addr} {c : Nat} (hnb : W.heap[nb]? = some (.cells (o.cells (.slice ao ks.len c)).toArray 79 (0, 0))) (hv : KidsV W (· < nB) (.slice ao ks.len c) ks) (hn : nB ≤ W.heap.size) :
    Calls Tryz.prog 51 #[.func (.yield lp) #[] #[], .pointer (some ⟨fb, 0, none⟩), .pointer (some ⟨nb, 0, none⟩)] W fun e W' => (∃ v, e = .returned v) ∧ St (arsO o ks) W' := by
  have HW := hid (walk_leaf (b := b) (off := off) (bc := bc) (fb := fb) (yb := W.heap.size) (wb := W.heap.size + 1) (all := arsO o ks) hS hY o ks ha hm (walk_all hS hY ks hks))
  obtain ⟨n, hnn⟩ : ∃ n, n = ks.len := ⟨_, rfl⟩
  rw [← hnn] at hnb hv
  obtain ⟨W1, hW1⟩ : ∃ W1, W1 = ((W.alloc (.cells #[.func (.yield lp) #[] #[]] 129)).alloc (.cells #[.nilFunc] 130)) := ⟨_, rfl⟩
  have n1 : W1.heap[W.heap.size + 1]? = some (.cells #[.nilFunc] 130 (0, 0)) := by rw [hW1]; exact heap_alloc2_new _ _ _
  have n0 : W1.heap[W.heap.size]? = some (.cells #[.func (.yield lp) #[] #[]] 129 (0, 0)) := by rw [hW1]; exact heap_alloc_keep (heap_alloc_new _ _) _
  have b1 : Below W.heap.size W W1 := by rw [hW1]; exact ((Below.refl _ W).alloc (Nat.le_refl _) _).alloc (by simp) _
  have q1 := cell_of (i := 0) n1 rfl
  have p1 := free_of (i := 0) n1
  obtain ⟨W2, hW2⟩ : ∃ W2, W2 = W1.setCell ⟨W.heap.size + 1, 0, none⟩ (.func (.func 52) #[] #[.pointer (some ⟨fb, 0, none⟩), .pointer (some ⟨W.heap.size, 0, none⟩), .pointer (some ⟨W.heap.size + 1, 0, none⟩)]) := ⟨_, rfl⟩
  have b2 : Below W.heap.size W W2 := by rw [hW2]; exact ((Chg.of_below (F := []) b1).setCell (.inr (by simp)) _).nil_below
  have hE : WkE b off bc fb W.heap.size (W.heap.size + 1) lp W2 := ⟨(b2.block _ (heap_lt hf)).trans hf, by rw [hW2]; exact heap_setCell_far n0 (by omega) _, by rw [hW2]; exact heap_setCell_at (i := 0) n1 _⟩
  have HC := hid (show Calls Tryz.prog 52 #[.agg (o.cells (.slice ao n c)).toArray, .pointer (some ⟨fb, 0, none⟩), .pointer (some ⟨W.heap.size, 0, none⟩), .pointer (some ⟨W.heap.size + 1, 0, none⟩)] W2 fun e W' => e = .returned (.bool true) ∧ St (arsO o ks) W' ∧ Soft nB W2 W' from by
    have := HW.out [] W2 ao c (hS _ _ _ h0 b2) hE (by rw [← hnn]; exact hv.keep b2) (Nat.le_trans hn b2.size) ⟨[], by simp⟩
    rw [← hnn] at this
    exact this)
  have NB := hid ((b2.block _ (heap_lt hnb)).trans hnb)
  have W0 := cell_of (i := 0) hE.k rfl
  have hst : (store ⟨W.heap.size + 1, 0, none⟩ (.func (.func 52) #[] #[.pointer (some ⟨fb, 0, none⟩), .pointer (some ⟨W.heap.size, 0, none⟩), .pointer (some ⟨W.heap.size + 1, 0, none⟩)])).run Tryz.prog W1 = .ok () W2 := by
    rw [run_store Tryz.prog W1 _ _ _ rfl, q1, p1, hW2]
    rfl
  have HW2 := hid hW2
  have HW1 := hid hW1
  clear HW hS hY h0 hf hnb hv hn b2 b1 n0 n1 hE hW2 hW1 hnn ha hm hks
  go_enter Tryz.func51, Tryz.ntmps51
  go_wp2_with (refine wpList_stop_makeFunc _ _ _ rfl ?_)
  rw [← HW1.out]
  clear HW1 q1 p1
  refine Stop.mk ?_
  go_wp2_with (refine stop_load 130 _ rfl ?_)
  clear HW2 hst
  refine Stop.mk ?_
  go_wp2_with (refine wpList_load_row rfl 79 _ rfl nb rfl 79 _ (0, 0) _ NB.out Tryz.underlying79 rfl (ow_info o (.slice ao n c)) ?_)
  refine HC.out.mono ?_
  rintro e w3 ⟨rfl, hs, -⟩
  clear HC NB W0
  go_wp2_with fail
  go_end0
  exact ⟨⟨_, rfl⟩, hs⟩
end Go.Proofs.YtpcjfgihglfdgaaGreatDoor
