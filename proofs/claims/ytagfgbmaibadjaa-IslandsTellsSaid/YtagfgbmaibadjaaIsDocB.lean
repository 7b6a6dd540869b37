/- The document's own Parts, whole: its tables' filling, then the rest. -/
import Derived.Test.YtagfgbmaibadjaaIsDocL
import Derived.Test.YtagfgbmaibadjaaIsRefR
namespace Go.Proofs.Ytagfgbmaibadjaa
open Go.RowKit Go.Lib

structure FillAt (W : World) (m : Nat) (vs : Nat → Value) (L PP : Pairs) (wr : World) : Prop where
  rp : RowV wr W.heap.size m vs
  rv : Rows3 wr W.heap.size m vs (readers L) [W.heap.size + 1]
  rn : RowF wr (W.heap.size + 1) m (fun q => (wants PP [] q : Int))
  bel : Below W.heap.size W wr
theorem FillAt.drewN {W : World} {m : Nat} {vs : Nat → Value} {L PP : Pairs} {wr : World} (A : FillAt W m vs L PP wr) (k : Nat) : FillAt W m vs L PP (wr.drewN k) :=
  ⟨A.rp, A.rv.chg (G := []) ((Chg.refl _ wr).drewN k) (by simp), A.rn, bdrew A.bel k⟩
theorem FillAt.need {W : World} {m a z : Nat} {vs : Nat → Value} {L PP PP' : Pairs} {wr : World} (A : FillAt W m vs L PP wr) (h : upd (wants PP []) a z = wants PP' []) : FillAt W m vs L PP' (wr.setCell ⟨W.heap.size + 1, a, none⟩ (.int .i64 (z : Int))) := by
  have ch : Chg [W.heap.size + 1] wr (wr.setCell ⟨W.heap.size + 1, a, none⟩ (.int .i64 (z : Int))) := (Chg.refl _ wr).setCell (by simp) _
  refine ⟨A.rp.chg ch (by simp), A.rv.chg ch (fun b hb => .inl hb), ?_, A.bel.setCell (by simp) _⟩
  have h1 := A.rn.set (k := a) (z : Int)
  have e : upd (fun q => (wants PP [] q : Int)) a (z : Int) = fun q => (wants PP' [] q : Int) := by
    funext p
    rw [← h]
    unfold upd
    by_cases e : p = a <;> simp [e]
  rw [e] at h1
  exact h1
theorem ownAt_len (c : Nat → Nat) (i : Nat) : (ownAt c i).length = i := by simp [ownAt]

def FillRel (W : World) (m : Nat) (g : Gr) (c : Nat → Nat) (n : Nat) (iv : Value) (wr : World) : Prop :=
  ∃ (i : Nat) (vs : Nat → Value), iv = .int .i64 (i : Int) ∧ i ≤ n ∧ FillAt W m vs (ownAt c i) (pairsAt g c i 0) wr
def FillIn (W : World) (m : Nat) (g : Gr) (c : Nat → Nat) (i : Nat) (vs : Nat → Value) (kv : Value) (wr : World) : Prop :=
  ∃ k : Nat, kv = .int .i64 (k : Int) ∧ k ≤ (edges g i).length ∧ FillAt W m vs (ownAt c (i + 1)) (pairsAt g c i k) wr

set_option maxRecDepth 20000 in
set_option maxHeartbeats 8000000 in
theorem doc_right {w : World} {v : Value} {g : Gr} {n M : Nat} (h : RowsIn w v (castG g)) (hr : rightB (castG g) = true) (hn : n = g.length) (hn2 : n ≤ 2000) (R : RightG g) (hM : ∀ k, (edges g k).length ≤ M) (hM2 : (n + 1) * M ≤ 1000000) : Calls Try.prog 14 #[v] w (PartsPost w g) := by
  have HRR := rright_any w v (castG g) h
  rw [hr] at HRR
  have HRT := hid HRR
  have HIS := hid (isles_any h hn hn2 R hM hM2)
  obtain ⟨ao, ec, rfl, _⟩ := rows_view h
  rw [castG_length, ← hn] at h HRT HIS ⊢
  have H := hid h
  have HN := hid hn
  have HR := hid R
  have HM := hid hM
  have HM2 := hid hM2
  clear h hr hn R hM hM2 HRR
  go_enter Try.func14, Try.ntmps14
  go_wp2_with fail
  refine HRT.out.mono ?_
  rintro e w1 ⟨rfl, rfl⟩
  go_wp2_with fail
  refine HIS.out.mono ?_
  rintro e W ⟨fb, m, c0, order, rfl, rf, O, K, hmn, hfb, hbW⟩
  dsimp only
  obtain ⟨N, hci⟩ := numU_of K O HR.out
  obtain ⟨c, hc⟩ : ∃ c : Nat → Nat, c = fun i => (c0 i).getD 0 := ⟨_, rfl⟩
  have rf2 : RowF W fb n (fun i => (c i : Int)) := by
    have e : W.heap[fb]? = some (.cells ((List.range n).map fun j => Value.int .i64 (islI c0 j)).toArray 3 (0, 0)) := rf
    unfold RowF
    rw [e]
    congr 3
    refine List.map_congr_left (fun j hj => ?_)
    simp only [List.mem_range] at hj
    rw [hci j (by have := HN.out; omega), hc]
  rw [← hc] at N
  have HNUM := hid N
  have HRF := hid rf2
  have HBW := hid hbW
  have hmk1 := make_rows m (by omega)
  have hmk2 := make_ints m (by omega)
  have F0 := hid (show FillRel W m g c n (.int .i64 0) ((W.alloc (.cells (List.replicate m (Value.slice none 0 0)).toArray 24)).alloc (.cells (List.replicate m (Value.int .i64 0)).toArray 3)) from
    ⟨0, fun _ => .slice none 0 0, rfl, by omega, by
      have e1 := heap_alloc_keep (heap_alloc_new W (.cells (List.replicate m (Value.slice none 0 0)).toArray 24)) (.cells (List.replicate m (Value.int .i64 0)).toArray 3)
      have e2 := heap_alloc_new (W.alloc (.cells (List.replicate m (Value.slice none 0 0)).toArray 24)) (.cells (List.replicate m (Value.int .i64 0)).toArray 3)
      simp only [World.size_alloc] at e2
      refine ⟨?_, ?_, ?_, ((Below.refl _ W).alloc (Nat.le_refl _) _).alloc (by simp) _⟩
      · unfold RowV
        rw [e1, List.map_const']; simp
      · have e : readers (ownAt c 0) = fun _ => [] := by funext q; simp [ownAt, readers]
        rw [e]
        exact ⟨fun p _ => by simpa [natCells] using World.ownsRow_nil _ _ _ _, fun p _ b hb => by simp [Value.ownBlock] at hb, fun p q _ _ _ b hb => by simp [Value.ownBlock] at hb⟩
      · unfold RowF
        rw [e2]
        have : (fun q => Value.int .i64 ((wants (pairsAt g c 0 0) [] q : Nat) : Int)) = fun _ => Value.int .i64 0 := by funext q; simp [pairsAt, wants]
        rw [this, List.map_const']; simp⟩)
  simp only [List.toArray_replicate] at F0
  have hfw := rf2.lt
  clear rf rf2 O K hfb hbW N hci hc
  go_wp2_with fail
  rename_i K hK
  have HK := hid hK
  clear hK hmk1 hmk2
  go_loopw [8] (fun iv y => FillRel W m g c n iv y) (fun iv _ => n - (intOf iv).toNat)
  case atStart => exact F0.out
  case round =>
    clear F0
    obtain ⟨i, vs, rfl, hi, A⟩ := hrel
    by_cases hgo : i < n
    · obtain ⟨ci, hci⟩ : ∃ ci, ci = c i := ⟨_, rfl⟩
      have hcm : ci < m := by rw [hci]; exact HNUM.out.lt i (by have := HN.out; omega)
      have c0w := HRF.out.get hgo
      rw [← hci] at c0w
      have HC0 := hid c0w
      have c1 := cell_below c0w A.bel
      have HCI := hid hci
      obtain ⟨gb, go, lo, lc, rfl, hcl, hil⟩ := rows_cell H.out (castG_get (g := g) (i := i) (HN.out ▸ hgo))
      rw [List.length_map] at hcl hil
      obtain ⟨rn, hrn⟩ : ∃ rn, rn = (edges g i).length := ⟨_, rfl⟩
      rw [← hrn] at hcl hil
      have hrn2 := (ints_len hil).1
      have HRN := hid hrn
      have HIL := hid hil
      have HCL := hid (cell_below hcl HBW.out)
      have hlr : (readers (ownAt c i) ci).length ≤ 1000000 := by
        have h1 := readers_le (ownAt c i) ci
        rw [ownAt_len] at h1
        omega
      obtain ⟨E, hE⟩ : ∃ E, E = ownAt c i := ⟨_, rfl⟩
      obtain ⟨PP, hPP⟩ : ∃ PP, PP = pairsAt g c i 0 := ⟨_, rfl⟩
      rw [← hE] at hlr A
      rw [← hPP] at A
      have hs := A.bel.size
      have rp0 := A.rp.get hcm
      have rp1 := ((Chg.refl [] wr).alloc (.cells #[.int .i64 (i : Int)] 3)).cell rp0 (by simp)
      have AD := A.drewN 1
      have hnl := A.rn.lt
      obtain ⟨a3, c3, w3, happ, hv3, ch3⟩ := AD.rv.apps (i := ci) hcm hs hlr (by simpa using hnl) [i] (by simp) (by simp)
      have hr3 := rowv_keep (w := wr.drewN 1) (f := vs) AD.rp (AD.rv.row ci hcm) ch3
      have hb3 : Below W.heap.size (wr.drewN 1) w3 := ch3.below (fun y hy => by
        simp only [own, Option.mem_toList] at hy
        exact ((AD.rv.row ci hcm).lt y hy).1) hs
      have rn3 := AD.rn.chg ch3 (fun hm => by
        simp only [own, Option.mem_toList] at hm
        exact AD.rv.far ci hcm _ hm (by simp))
      have happ1 : (Builtin.append_ #[24, 24] 24 #[vs ci, .slice (some ⟨wr.heap.size, 0, none⟩) 1 1]).run Try.prog (wr.alloc (.cells #[.int .i64 (i : Int)] 3)).drew = .ok (.slice a3 ((readers E ci).length + 1) c3) w3 := happ
      clear happ
      have kq := hr3.get hcm
      have fq := hr3.free (i := ci)
      have hb4 := hb3.setCell (p := ⟨W.heap.size, ci, none⟩) (Nat.le_refl _) (.slice a3 ((readers E ci).length + 1) c3)
      have hb5 := (bdrew A.bel 1).trans hb4
      have keep3 := And.intro (cell_below HC0.out ((bdrew A.bel 1).trans hb3)) (cell_below HC0.out ((bdrew A.bel 1).trans hb3))
      have keep4 := And.intro (cell_below HC0.out hb5) (cell_below HC0.out hb5)
      have ch4 : Chg [W.heap.size] w3 (w3.setCell ⟨W.heap.size, ci, none⟩ (.slice a3 ((readers E ci).length + 1) c3)) := (Chg.refl _ w3).setCell (by simp) _
      have hv4 := hv3.chg ch4 (fun y hy => .inr (fun p hp e => by
        simp only [List.mem_singleton] at hy
        subst hy
        obtain ⟨cur, hc⟩ := owns_cells (hv3.row p hp) e
        exact heap_ne hc hr3 (by decide) rfl))
      have hr4 := hr3.set (k := ci) (.slice a3 ((readers E ci).length + 1) c3)
      have rn4 := rn3.chg ch4 (by simp)
      have hstep : E ++ [(i, ci)] = ownAt c (i + 1) := by rw [hE, hci]; exact ownAt_step
      rw [readers_upd, hstep] at hv4
      rw [hPP] at rn4
      obtain ⟨X, hX⟩ : ∃ X, X = w3.setCell ⟨W.heap.size, ci, none⟩ (.slice a3 ((readers E ci).length + 1) c3) := ⟨_, rfl⟩
      rw [← hX] at hr4 hv4 rn4 hb5
      have RI := hid (show FillIn W m g c i (upd vs ci (.slice a3 ((readers E ci).length + 1) c3)) (.int .i64 0) X from ⟨0, rfl, Nat.zero_le _, hr4, hv4, rn4, hb5⟩)
      have HX := hid hX
      clear hr4 hv4 rn4 hb5 hX hstep ch4 hb4 rn3 hb3 hr3 hv3 ch3 hnl AD hs A hE hPP hlr hrn hil hcl c0w hci
      go_wp2_with fail
      refine wp_region_held_drew (S := fun y => y.cell? ⟨fb, i, none⟩ = some (.int .i64 (ci : Int)) ∧ y.cell? ⟨fb, i, none⟩ = some (.int .i64 (ci : Int))) (by kernel_rfl) ⟨c1, c1⟩ (fun hS => ?_)
      refine wpAnyH_take (i := 0) (oi := { dst := some 36, op := Op.move (Operand.tmp 6), type := 22, pos := "ref.go:105", after := #[], guard := none }) (v := ?_) rfl (by kernel_rfl) (by kernel_rfl) (by kernel_rfl) (fun _ _ _ h => h) (Or.inl ⟨by rfl, ?_⟩) hS ?_
      rotate_left 1
      · rintro wx ⟨s0, s1⟩
        (go_simp <;> (try with_reducible rfl))
      try simp only [Act.put, List.setIfInBounds_toArray, List.set_cons_zero, List.set_cons_succ]
      refine wpAnyH_take (i := 1) (oi := { dst := some 37, op := Op.move (Operand.tmp 4), type := 24, pos := "ref.go:105", after := #[], guard := none }) (v := ?_) rfl (by kernel_rfl) (by kernel_rfl) (by kernel_rfl) (fun _ _ _ h => h) (Or.inl ⟨by rfl, ?_⟩) hS ?_
      rotate_left 1
      · rintro wx ⟨s0, s1⟩
        (go_simp <;> (try with_reducible rfl))
      try simp only [Act.put, List.setIfInBounds_toArray, List.set_cons_zero, List.set_cons_succ]
      refine wpAnyH_take (i := 2) (oi := { dst := some 38, op := Op.move (Operand.tmp 8), type := 3, pos := "ref.go:105", after := #[], guard := none }) (v := ?_) rfl (by kernel_rfl) (by kernel_rfl) (by kernel_rfl) (fun _ _ _ h => h) (Or.inl ⟨by rfl, ?_⟩) hS ?_
      rotate_left 1
      · rintro wx ⟨s0, s1⟩
        (go_simp <;> (try with_reducible rfl))
      try simp only [Act.put, List.setIfInBounds_toArray, List.set_cons_zero, List.set_cons_succ]
      refine wpAnyH_take (i := 3) (oi := { dst := some 39, op := Op.indexAddr 24 (Operand.tmp 37) (Operand.tmp 38), type := 0, pos := "ref.go:105", after := #[{ on := 1, ground := Ground.data }, { on := 2, ground := Ground.data }], guard := none }) (v := ?_) rfl (by kernel_rfl) (by kernel_rfl) (by kernel_rfl) (fun _ _ _ h => h) (Or.inl ⟨by rfl, ?_⟩) hS ?_
      rotate_left 1
      · rintro wx ⟨s0, s1⟩
        (go_simp <;> (try with_reducible rfl))
      try simp only [Act.put, List.setIfInBounds_toArray, List.set_cons_zero, List.set_cons_succ]
      refine wpAnyH_take (i := 4) (oi := { dst := some 40, op := Op.load 3 (Operand.tmp 39), type := 3, pos := "ref.go:105", after := #[{ on := 3, ground := Ground.data }], guard := none }) (v := ?_) rfl (by kernel_rfl) (by kernel_rfl) (by kernel_rfl) (fun _ _ _ h => h) (Or.inl ⟨by rfl, ?_⟩) hS ?_
      rotate_left 1
      · rintro wx ⟨s0, s1⟩
        (go_simp <;> (try with_reducible rfl))
      try simp only [Act.put, List.setIfInBounds_toArray, List.set_cons_zero, List.set_cons_succ]
      refine wpAnyH_take (i := 5) (oi := { dst := some 41, op := Op.move (Operand.tmp 6), type := 22, pos := "ref.go:105", after := #[], guard := none }) (v := ?_) rfl (by kernel_rfl) (by kernel_rfl) (by kernel_rfl) (fun _ _ _ h => h) (Or.inl ⟨by rfl, ?_⟩) hS ?_
      rotate_left 1
      · rintro wx ⟨s0, s1⟩
        (go_simp <;> (try with_reducible rfl))
      try simp only [Act.put, List.setIfInBounds_toArray, List.set_cons_zero, List.set_cons_succ]
      refine wpAnyH_take (i := 6) (oi := { dst := some 42, op := Op.move (Operand.tmp 4), type := 24, pos := "ref.go:105", after := #[], guard := none }) (v := ?_) rfl (by kernel_rfl) (by kernel_rfl) (by kernel_rfl) (fun _ _ _ h => h) (Or.inl ⟨by rfl, ?_⟩) hS ?_
      rotate_left 1
      · rintro wx ⟨s0, s1⟩
        (go_simp <;> (try with_reducible rfl))
      try simp only [Act.put, List.setIfInBounds_toArray, List.set_cons_zero, List.set_cons_succ]
      refine wpAnyH_take (i := 7) (oi := { dst := some 43, op := Op.move (Operand.tmp 8), type := 3, pos := "ref.go:105", after := #[], guard := none }) (v := ?_) rfl (by kernel_rfl) (by kernel_rfl) (by kernel_rfl) (fun _ _ _ h => h) (Or.inl ⟨by rfl, ?_⟩) hS ?_
      rotate_left 1
      · rintro wx ⟨s0, s1⟩
        (go_simp <;> (try with_reducible rfl))
      try simp only [Act.put, List.setIfInBounds_toArray, List.set_cons_zero, List.set_cons_succ]
      refine wpAnyH_take (i := 8) (oi := { dst := some 44, op := Op.indexAddr 24 (Operand.tmp 42) (Operand.tmp 43), type := 0, pos := "ref.go:105", after := #[{ on := 6, ground := Ground.data }, { on := 7, ground := Ground.data }], guard := none }) (v := ?_) rfl (by kernel_rfl) (by kernel_rfl) (by kernel_rfl) (fun _ _ _ h => h) (Or.inl ⟨by rfl, ?_⟩) hS ?_
      rotate_left 1
      · rintro wx ⟨s0, s1⟩
        (go_simp <;> (try with_reducible rfl))
      try simp only [Act.put, List.setIfInBounds_toArray, List.set_cons_zero, List.set_cons_succ]
      refine wpAnyH_take (i := 9) (oi := { dst := some 45, op := Op.load 3 (Operand.tmp 44), type := 3, pos := "ref.go:105", after := #[{ on := 8, ground := Ground.data }], guard := none }) (v := ?_) rfl (by kernel_rfl) (by kernel_rfl) (by kernel_rfl) (fun _ _ _ h => h) (Or.inl ⟨by rfl, ?_⟩) hS ?_
      rotate_left 1
      · rintro wx ⟨s0, s1⟩
        (go_simp <;> (try with_reducible rfl))
      try simp only [Act.put, List.setIfInBounds_toArray, List.set_cons_zero, List.set_cons_succ]
      refine wpAnyH_take (i := 10) (oi := { dst := some 46, op := Op.indexAddr 22 (Operand.tmp 41) (Operand.tmp 45), type := 0, pos := "ref.go:105", after := #[{ on := 5, ground := Ground.data }, { on := 9, ground := Ground.data }], guard := none }) (v := ?_) rfl (by kernel_rfl) (by kernel_rfl) (by kernel_rfl) (fun _ _ _ h => h) (Or.inl ⟨by rfl, ?_⟩) hS ?_
      rotate_left 1
      · rintro wx ⟨s0, s1⟩
        (go_simp <;> (try with_reducible rfl))
      try simp only [Act.put, List.setIfInBounds_toArray, List.set_cons_zero, List.set_cons_succ]
      refine wpAnyH_take (i := 12) (oi := { dst := some 48, op := Op.move (Operand.tmp 8), type := 3, pos := "ref.go:105", after := #[], guard := none }) (v := ?_) rfl (by kernel_rfl) (by kernel_rfl) (by kernel_rfl) (fun _ _ _ h => h) (Or.inl ⟨by rfl, ?_⟩) hS ?_
      rotate_left 1
      · rintro wx ⟨s0, s1⟩
        (go_simp <;> (try with_reducible rfl))
      try simp only [Act.put, List.setIfInBounds_toArray, List.set_cons_zero, List.set_cons_succ]
      refine wpAnyH_ready (rs := [11, 13]) (by kernel_rfl) (by simp) ?_
      refine AllReadyH.cons (o := { dst := some 47, op := Op.load 24 (Operand.tmp 46), type := 24, pos := "ref.go:105", after := #[{ on := 10, ground := Ground.data }], guard := none }) rfl (fun K hK => ?_) (AllReadyH.cons (o := { dst := some 49, op := Op.buildSlice 24 1 #[(0, Operand.tmp 48)], type := 24, pos := "ref.go:105", after := #[{ on := 12, ground := Ground.data }], guard := none }) rfl (fun K hK => ?_) AllReadyH.nil)
      · go_simp
        refine hK.out _ _ ⟨c1, c1⟩ (fun hS => ?_)
        clear hK K
        try simp only [Act.put, List.setIfInBounds_toArray, List.set_cons_zero, List.set_cons_succ]
        refine wpAnyH_ready (rs := [13]) (by kernel_rfl) (by simp) ?_
        refine AllReadyH.cons (o := { dst := some 49, op := Op.buildSlice 24 1 #[(0, Operand.tmp 48)], type := 24, pos := "ref.go:105", after := #[{ on := 12, ground := Ground.data }], guard := none }) rfl (fun K hK => ?_) AllReadyH.nil
        go_simp
        refine hK.out _ _ ⟨((Chg.refl [] wr).alloc _).cell c1 (by simp), ((Chg.refl [] wr).alloc _).cell c1 (by simp)⟩ (fun hS => ?_)
        clear hK K
        try simp only [Act.put, List.setIfInBounds_toArray, List.set_cons_zero, List.set_cons_succ]
        refine wpAnyH_ready (rs := [14]) (by kernel_rfl) (by simp) ?_
        refine AllReadyH.cons (o := { dst := some 50, op := Op.call { callee := Callee.builtin Builtin.append, args := #[Operand.tmp 47, Operand.tmp 49], argTypes := #[24, 24] }, type := 24, pos := "ref.go:105", after := #[{ on := 11, ground := Ground.data }, { on := 13, ground := Ground.data }], guard := none }) rfl (fun K hK => ?_) AllReadyH.nil
        refine step_append_run rfl (.tmp 47) (.tmp 49) 24 rfl _ _ (by simp [Act.eval]) (by simp [Act.eval]) happ1 ?_
        refine hK.out _ _ keep3 (fun hS => ?_)
        clear hK K
        try simp only [Act.put, List.setIfInBounds_toArray, List.set_cons_zero, List.set_cons_succ]
        refine wpAnyH_take (i := 15) (oi := { dst := some 51, op := Op.indexAddr 22 (Operand.tmp 36) (Operand.tmp 40), type := 0, pos := "ref.go:105", after := #[{ on := 0, ground := Ground.data }, { on := 4, ground := Ground.data }, { on := 0, ground := Ground.phase }, { on := 1, ground := Ground.phase }, { on := 2, ground := Ground.phase }, { on := 3, ground := Ground.phase }, { on := 4, ground := Ground.phase }, { on := 5, ground := Ground.phase }, { on := 6, ground := Ground.phase }, { on := 7, ground := Ground.phase }, { on := 8, ground := Ground.phase }, { on := 9, ground := Ground.phase }, { on := 10, ground := Ground.phase }, { on := 11, ground := Ground.phase }, { on := 12, ground := Ground.phase }, { on := 13, ground := Ground.phase }, { on := 14, ground := Ground.phase }], guard := none }) (v := ?_) rfl (by kernel_rfl) (by kernel_rfl) (by kernel_rfl) (fun _ _ _ h => h) (Or.inl ⟨by rfl, ?_⟩) hS ?_
        rotate_left 1
        · rintro wx ⟨s0, s1⟩
          (go_simp <;> (try with_reducible rfl))
        try simp only [Act.put, List.setIfInBounds_toArray, List.set_cons_zero, List.set_cons_succ]
        refine wpAnyH_ready (rs := [16]) (by kernel_rfl) (by simp) ?_
        refine AllReadyH.cons (o := { dst := none, op := Op.store 24 (Operand.tmp 51) (Operand.tmp 50), type := 0, pos := "ref.go:105", after := #[{ on := 15, ground := Ground.data }, { on := 14, ground := Ground.data }, { on := 14, ground := Ground.chain }, { on := 0, ground := Ground.phase }, { on := 1, ground := Ground.phase }, { on := 2, ground := Ground.phase }, { on := 3, ground := Ground.phase }, { on := 4, ground := Ground.phase }, { on := 5, ground := Ground.phase }, { on := 6, ground := Ground.phase }, { on := 7, ground := Ground.phase }, { on := 8, ground := Ground.phase }, { on := 9, ground := Ground.phase }, { on := 10, ground := Ground.phase }, { on := 11, ground := Ground.phase }, { on := 12, ground := Ground.phase }, { on := 13, ground := Ground.phase }, { on := 14, ground := Ground.phase }], guard := none }) rfl (fun K hK => ?_) AllReadyH.nil
        go_simp
        refine hK.out _ _ keep4 (fun hS => ?_)
        clear hK K
        try simp only [Act.put, List.setIfInBounds_toArray, List.set_cons_zero, List.set_cons_succ]
        refine wpAnyH_done (by kernel_rfl) ?_ _
        go_wp2_with fail
        rw [← HX.out]
        clear rp0 rp1 happ1 kq fq keep3 keep4 c1 hS
        go_loopw [9] (fun kv y => FillIn W m g c i (upd vs ci (.slice a3 ((readers E ci).length + 1) c3)) kv y) (fun kv _ => rn - (intOf kv).toNat)
        case atStart => exact RI.out
        case round =>
          clear RI HX
          obtain ⟨k, rfl, hk, A⟩ := hrel
          rw [← HRN.out] at hk
          have c1 := cell_below HCL.out A.bel
          by_cases hkn : k < rn
          · obtain ⟨x, hx⟩ : ∃ x, (edges g i)[k]? = some x := ⟨_, List.getElem?_eq_getElem (by have := HRN.out; omega)⟩
            obtain ⟨b2, o2, rfl, c2w, x1, x2⟩ := ints_cell HIL.out (i := k) (x := (x : Int)) (by rw [List.getElem?_map, hx]; rfl)
            have c2W := cell_below c2w HBW.out
            have hxn : x < n := by have := HR.out i x (List.mem_of_getElem? hx); have := HN.out; omega
            obtain ⟨cx, hcx⟩ : ∃ cx, cx = c x := ⟨_, rfl⟩
            have c3w := HRF.out.get hxn
            rw [← hcx] at c3w
            have d1 : ∀ z, (wr.drewN z).cell? ⟨gb, go + i, none⟩ = some (.slice (some ⟨b2, o2, none⟩) rn lc) := fun z => cell_below HCL.out (bdrew A.bel z)
            have d2 : ∀ z, (wr.drewN z).cell? ⟨b2, o2 + k, none⟩ = some (.int .i64 (x : Int)) := fun z => cell_below c2W (bdrew A.bel z)
            have d3 : ∀ z, (wr.drewN z).cell? ⟨fb, x, none⟩ = some (.int .i64 (cx : Int)) := fun z => cell_below c3w (bdrew A.bel z)
            have d4 : ∀ z, (wr.drewN z).cell? ⟨fb, i, none⟩ = some (.int .i64 (ci : Int)) := fun z => cell_below HC0.out (bdrew A.bel z)
            have hk2 : k + 1 ≤ (edges g i).length := by have := HRN.out; omega
            by_cases he : cx = ci
            · have RR := hid (fun z => show FillIn W m g c i (upd vs ci (.slice a3 ((readers E ci).length + 1) c3)) (.int .i64 ((k : Int) + 1)) (wr.drewN z) from ⟨k + 1, by simp, hk2, by
                rw [pairsAt_no hx (by rw [← hcx, he]; exact HCI.out)]
                exact A.drewN z⟩)
              rw [he] at d3
              clear A hx c2w c2W c3w hcx
              go_wp2_with fail
              go_quiet (fail)
              go_wp2_with fail
              go_roundw
              case rel => exact RR.out _
              case measure => simp [intOf]; omega
            · obtain ⟨z, hz⟩ : ∃ z, z = wants (pairsAt g c i k) [] ci := ⟨_, rfl⟩
              have hzb : z ≤ 1000000 := by
                have h1 := wants_le (pairsAt g c i k) [] ci
                have h2 := pairsAt_length (c := c) HM.out i k
                have h3 : (i + 1) * M ≤ (n + 1) * M := Nat.mul_le_mul_right M (by omega)
                have := HM2.out
                omega
              have hg := A.rn.get hcm
              simp only [← hz] at hg
              have d5 : ∀ z', (wr.drewN z').cell? ⟨W.heap.size + 1, ci, none⟩ = some (.int .i64 (z : Int)) := fun _ => hg
              have d6 : ∀ z', (wr.drewN z').frozen? ⟨W.heap.size + 1, ci, none⟩ = false := fun _ => A.rn.free
              have RR := hid (fun z' => show FillIn W m g c i (upd vs ci (.slice a3 ((readers E ci).length + 1) c3)) (.int .i64 ((k : Int) + 1)) ((wr.drewN z').setCell ⟨W.heap.size + 1, ci, none⟩ (.int .i64 ((z : Int) + 1))) from ⟨k + 1, by simp, hk2, by
                have h1 := (A.drewN z').need (a := ci) (z := z + 1) (PP' := pairsAt g c i k ++ [(ci, cx)]) (by rw [hz]; exact wants_upd _ _ _)
                rw [pairsAt_yes hx (by rw [← hcx, ← HCI.out]; exact he), ← hcx, ← HCI.out]
                have e : ((z + 1 : Nat) : Int) = (z : Int) + 1 := by omega
                rw [e] at h1
                exact h1⟩)
              have hne : ¬ ((cx : Int) = (ci : Int)) := by omega
              clear A hx c2w c2W c3w hcx hz hg
              go_wp2_with fail
              go_quiet (fail)
              go_wp2_with fail
              go_roundw
              case rel => exact RR.out _
              case measure => simp [intOf]; omega
          · have RR := hid (show FillRel W m g c n (.int .i64 ((i : Int) + 1)) wr from ⟨i + 1, _, by simp, by omega, by
              have : k = (edges g i).length := by have := HRN.out; omega
              rw [this, pairsAt_full] at A
              exact A⟩)
            clear A
            go_wp2_with fail
            go_roundw
            case rel => exact RR.out
            case measure => simp [intOf]; omega
      · go_simp
        refine hK.out _ _ ⟨((Chg.refl [] wr).alloc _).cell c1 (by simp), ((Chg.refl [] wr).alloc _).cell c1 (by simp)⟩ (fun hS => ?_)
        clear hK K
        try simp only [Act.put, List.setIfInBounds_toArray, List.set_cons_zero, List.set_cons_succ]
        refine wpAnyH_ready (rs := [11]) (by kernel_rfl) (by simp) ?_
        refine AllReadyH.cons (o := { dst := some 47, op := Op.load 24 (Operand.tmp 46), type := 24, pos := "ref.go:105", after := #[{ on := 10, ground := Ground.data }], guard := none }) rfl (fun K hK => ?_) AllReadyH.nil
        go_simp
        refine hK.out _ _ ⟨((Chg.refl [] wr).alloc _).cell c1 (by simp), ((Chg.refl [] wr).alloc _).cell c1 (by simp)⟩ (fun hS => ?_)
        clear hK K
        try simp only [Act.put, List.setIfInBounds_toArray, List.set_cons_zero, List.set_cons_succ]
        refine wpAnyH_ready (rs := [14]) (by kernel_rfl) (by simp) ?_
        refine AllReadyH.cons (o := { dst := some 50, op := Op.call { callee := Callee.builtin Builtin.append, args := #[Operand.tmp 47, Operand.tmp 49], argTypes := #[24, 24] }, type := 24, pos := "ref.go:105", after := #[{ on := 11, ground := Ground.data }, { on := 13, ground := Ground.data }], guard := none }) rfl (fun K hK => ?_) AllReadyH.nil
        refine step_append_run rfl (.tmp 47) (.tmp 49) 24 rfl _ _ (by simp [Act.eval]) (by simp [Act.eval]) happ1 ?_
        refine hK.out _ _ keep3 (fun hS => ?_)
        clear hK K
        try simp only [Act.put, List.setIfInBounds_toArray, List.set_cons_zero, List.set_cons_succ]
        refine wpAnyH_take (i := 15) (oi := { dst := some 51, op := Op.indexAddr 22 (Operand.tmp 36) (Operand.tmp 40), type := 0, pos := "ref.go:105", after := #[{ on := 0, ground := Ground.data }, { on := 4, ground := Ground.data }, { on := 0, ground := Ground.phase }, { on := 1, ground := Ground.phase }, { on := 2, ground := Ground.phase }, { on := 3, ground := Ground.phase }, { on := 4, ground := Ground.phase }, { on := 5, ground := Ground.phase }, { on := 6, ground := Ground.phase }, { on := 7, ground := Ground.phase }, { on := 8, ground := Ground.phase }, { on := 9, ground := Ground.phase }, { on := 10, ground := Ground.phase }, { on := 11, ground := Ground.phase }, { on := 12, ground := Ground.phase }, { on := 13, ground := Ground.phase }, { on := 14, ground := Ground.phase }], guard := none }) (v := ?_) rfl (by kernel_rfl) (by kernel_rfl) (by kernel_rfl) (fun _ _ _ h => h) (Or.inl ⟨by rfl, ?_⟩) hS ?_
        rotate_left 1
        · rintro wx ⟨s0, s1⟩
          (go_simp <;> (try with_reducible rfl))
        try simp only [Act.put, List.setIfInBounds_toArray, List.set_cons_zero, List.set_cons_succ]
        refine wpAnyH_ready (rs := [16]) (by kernel_rfl) (by simp) ?_
        refine AllReadyH.cons (o := { dst := none, op := Op.store 24 (Operand.tmp 51) (Operand.tmp 50), type := 0, pos := "ref.go:105", after := #[{ on := 15, ground := Ground.data }, { on := 14, ground := Ground.data }, { on := 14, ground := Ground.chain }, { on := 0, ground := Ground.phase }, { on := 1, ground := Ground.phase }, { on := 2, ground := Ground.phase }, { on := 3, ground := Ground.phase }, { on := 4, ground := Ground.phase }, { on := 5, ground := Ground.phase }, { on := 6, ground := Ground.phase }, { on := 7, ground := Ground.phase }, { on := 8, ground := Ground.phase }, { on := 9, ground := Ground.phase }, { on := 10, ground := Ground.phase }, { on := 11, ground := Ground.phase }, { on := 12, ground := Ground.phase }, { on := 13, ground := Ground.phase }, { on := 14, ground := Ground.phase }], guard := none }) rfl (fun K hK => ?_) AllReadyH.nil
        go_simp
        refine hK.out _ _ keep4 (fun hS => ?_)
        clear hK K
        try simp only [Act.put, List.setIfInBounds_toArray, List.set_cons_zero, List.set_cons_succ]
        refine wpAnyH_done (by kernel_rfl) ?_ _
        go_wp2_with fail
        rw [← HX.out]
        clear rp0 rp1 happ1 kq fq keep3 keep4 c1 hS
        go_loopw [9] (fun kv y => FillIn W m g c i (upd vs ci (.slice a3 ((readers E ci).length + 1) c3)) kv y) (fun kv _ => rn - (intOf kv).toNat)
        case atStart => exact RI.out
        case round =>
          clear RI HX
          obtain ⟨k, rfl, hk, A⟩ := hrel
          rw [← HRN.out] at hk
          have c1 := cell_below HCL.out A.bel
          by_cases hkn : k < rn
          · obtain ⟨x, hx⟩ : ∃ x, (edges g i)[k]? = some x := ⟨_, List.getElem?_eq_getElem (by have := HRN.out; omega)⟩
            obtain ⟨b2, o2, rfl, c2w, x1, x2⟩ := ints_cell HIL.out (i := k) (x := (x : Int)) (by rw [List.getElem?_map, hx]; rfl)
            have c2W := cell_below c2w HBW.out
            have hxn : x < n := by have := HR.out i x (List.mem_of_getElem? hx); have := HN.out; omega
            obtain ⟨cx, hcx⟩ : ∃ cx, cx = c x := ⟨_, rfl⟩
            have c3w := HRF.out.get hxn
            rw [← hcx] at c3w
            have d1 : ∀ z, (wr.drewN z).cell? ⟨gb, go + i, none⟩ = some (.slice (some ⟨b2, o2, none⟩) rn lc) := fun z => cell_below HCL.out (bdrew A.bel z)
            have d2 : ∀ z, (wr.drewN z).cell? ⟨b2, o2 + k, none⟩ = some (.int .i64 (x : Int)) := fun z => cell_below c2W (bdrew A.bel z)
            have d3 : ∀ z, (wr.drewN z).cell? ⟨fb, x, none⟩ = some (.int .i64 (cx : Int)) := fun z => cell_below c3w (bdrew A.bel z)
            have d4 : ∀ z, (wr.drewN z).cell? ⟨fb, i, none⟩ = some (.int .i64 (ci : Int)) := fun z => cell_below HC0.out (bdrew A.bel z)
            have hk2 : k + 1 ≤ (edges g i).length := by have := HRN.out; omega
            by_cases he : cx = ci
            · have RR := hid (fun z => show FillIn W m g c i (upd vs ci (.slice a3 ((readers E ci).length + 1) c3)) (.int .i64 ((k : Int) + 1)) (wr.drewN z) from ⟨k + 1, by simp, hk2, by
                rw [pairsAt_no hx (by rw [← hcx, he]; exact HCI.out)]
                exact A.drewN z⟩)
              rw [he] at d3
              clear A hx c2w c2W c3w hcx
              go_wp2_with fail
              go_quiet (fail)
              go_wp2_with fail
              go_roundw
              case rel => exact RR.out _
              case measure => simp [intOf]; omega
            · obtain ⟨z, hz⟩ : ∃ z, z = wants (pairsAt g c i k) [] ci := ⟨_, rfl⟩
              have hzb : z ≤ 1000000 := by
                have h1 := wants_le (pairsAt g c i k) [] ci
                have h2 := pairsAt_length (c := c) HM.out i k
                have h3 : (i + 1) * M ≤ (n + 1) * M := Nat.mul_le_mul_right M (by omega)
                have := HM2.out
                omega
              have hg := A.rn.get hcm
              simp only [← hz] at hg
              have d5 : ∀ z', (wr.drewN z').cell? ⟨W.heap.size + 1, ci, none⟩ = some (.int .i64 (z : Int)) := fun _ => hg
              have d6 : ∀ z', (wr.drewN z').frozen? ⟨W.heap.size + 1, ci, none⟩ = false := fun _ => A.rn.free
              have RR := hid (fun z' => show FillIn W m g c i (upd vs ci (.slice a3 ((readers E ci).length + 1) c3)) (.int .i64 ((k : Int) + 1)) ((wr.drewN z').setCell ⟨W.heap.size + 1, ci, none⟩ (.int .i64 ((z : Int) + 1))) from ⟨k + 1, by simp, hk2, by
                have h1 := (A.drewN z').need (a := ci) (z := z + 1) (PP' := pairsAt g c i k ++ [(ci, cx)]) (by rw [hz]; exact wants_upd _ _ _)
                rw [pairsAt_yes hx (by rw [← hcx, ← HCI.out]; exact he), ← hcx, ← HCI.out]
                have e : ((z + 1 : Nat) : Int) = (z : Int) + 1 := by omega
                rw [e] at h1
                exact h1⟩)
              have hne : ¬ ((cx : Int) = (ci : Int)) := by omega
              clear A hx c2w c2W c3w hcx hz hg
              go_wp2_with fail
              go_quiet (fail)
              go_wp2_with fail
              go_roundw
              case rel => exact RR.out _
              case measure => simp [intOf]; omega
          · have RR := hid (show FillRel W m g c n (.int .i64 ((i : Int) + 1)) wr from ⟨i + 1, _, by simp, by omega, by
              have : k = (edges g i).length := by have := HRN.out; omega
              rw [this, pairsAt_full] at A
              exact A⟩)
            clear A
            go_wp2_with fail
            go_roundw
            case rel => exact RR.out
            case measure => simp [intOf]; omega
    · have hin : i = n := by omega
      subst hin
      go_wp2_with fail
      refine HK.out _ _ ?_
      have HP := @doc_last w1 wr W.heap.size i m fb W.heap.size (W.heap.size + 1) ec M ao vs g c
      simp only [rest14, sndSeq, Try.f14, Option.getD_some] at HP
      have hbw := HBW.out.size
      refine HP _ _ _ _ _ _ _ _ _ _ _ _ _ _ _ _ _ _ _ _ _ _ _ _ _ _ _ _ _ _ _ _ _ _ _ _ _ _ _ _ _ _ _ _ _ _ _ _ _ _ _ _ _ _ _ _ _ _ _ _ _ _ _ _ _ _ _ _ _ _ _ _ _ _ _ _ _ _ _ _ _ _ _ _ _ _ _ _ _ _ _ _ _ _ _ _ _ _ _ _ _ _ _ _ _ _ _ _ _ _ _ _ _ _ _ _ _ _ _ _ _ _ _ _ _ _ _ _ _ _ _ _ _ _ _ _ _ _ _ _ _ _ _ _ _ _ _ _ _ _ _ _ _ _ _ _ _ _ _ _ _ _ _ _ _ _ _ _ _ _ _ _ _ _ _ _ _ _ _ _ _ _ _ H.out HN.out hn2 hmn HNUM.out HR.out HM.out HM2.out (HRF.out.below (by exact A.bel)) A.rp ?_ ?_ (by omega) (by omega) (HBW.out.trans (below_low0 A.bel hbw))
      · have e : readers (ownAt c i) = partOf g c := by
          funext p
          rw [HN.out]
          exact ownAt_full
        have := A.rv
        rw [e] at this
        exact this
      · have e : pairsAt g c i 0 = pairs g c := by rw [HN.out]; exact pairsAt_all g c
        have := A.rn
        rw [e] at this
        exact this

end Go.Proofs.Ytagfgbmaibadjaa
