/- Rows of nodes of the call's own, beside other rows of its own. No condition. Contracts of the expander's expand and kids, at nodes of plain kinds. Condition: what the package-level variables hold lies as it was laid. -/
import Derived.Test.YtpcjfgihglfdgaaGreatDoorKChCheck
import Derived.Deep.LoopGhost

namespace Go.Proofs.YtpcjfgihglfdgaaGreatDoor
open Go.RowKit Go.Lib

/-- a row of nodes of the call's own, from block B on; neither it nor the kids lie in a block of E -/
def NodesE (y : World) (B : Nat) (E : List Nat) (v : Value) (f : Fo) : Prop :=
  (f = .nil → v = .slice none 0 0) ∧ ∃ L : List (List Value), y.ownsRow B 79 20 v f.len L.flatten ∧ L.length = f.len ∧ (∀ c ∈ L, c.length = 20) ∧
    ∀ (j : Nat) (o : Ow) (k : Fo), f.get j = some (o, k) → ∃ ao c, L[j]? = some (o.cells (.slice ao k.len c)) ∧ KidsV y (fun x => B ≤ x ∧ v.ownBlock ≠ some x ∧ x ∉ E) (.slice ao k.len c) k
theorem NodesE.nil (y : World) (B : Nat) (E : List Nat) : NodesE y B E (.slice none 0 0) .nil := ⟨fun _ => rfl, [], World.ownsRow_nil _ _ _ _, rfl, by simp, fun j o k h => by cases h⟩
section
variable {y z : World} {B nb : Nat} {E E' F : List Nat} {v : Value} {f k : Fo} {o : Ow} {ao : Option Addr} {c : Nat}
theorem NodesE.own (h : NodesE y B E v f) : NodesOwn y B v f := by
  obtain ⟨h0, L, h1, h2, h3, h4⟩ := h
  exact ⟨h0, L, h1, h2, h3, fun j o k hj => by obtain ⟨ao, c, h5, h6⟩ := h4 j o k hj; exact ⟨ao, c, h5, h6.mono (fun x hx => ⟨hx.1, hx.2.1⟩)⟩⟩
theorem NodesE.view (h : NodesE y B E v f) : ∃ a c, v = .slice a f.len c := by
  obtain ⟨-, L, h1, -⟩ := h
  obtain ⟨a, c, e, -⟩ := ownsRow_view h1
  exact ⟨a, c, e⟩
theorem NodesE.turn (h : NodesE y B E v f) (hc : Chg F y z) (hF : ∀ x ∈ F, (x ∈ E ∨ x < B) ∧ v.ownBlock ≠ some x) (hE : ∀ x ∈ E', x ∈ E ∨ y.heap.size ≤ x) : NodesE z B E' v f := by
  obtain ⟨h0, L, h1, h2, h3, h4⟩ := h
  refine ⟨h0, L, hc.owns h1 (fun x hx hm => (hF x hm).2 hx), h2, h3, fun j o k hj => ?_⟩
  obtain ⟨ao, c, h5, h6⟩ := h4 j o k hj
  refine ⟨ao, c, h5, (h6.lt.chg hc (fun x hx hb => ?_)).mono (fun x hx => ⟨hx.1.1, hx.1.2.1, fun hm => ?_⟩)⟩
  · rcases (hF x hx).1 with q | q
    · exact hb.1.2.2 q
    · have := hb.1.1; omega
  · rcases hE x hm with q | q
    · exact hx.1.2.2 q
    · have := hx.2; omega
theorem nodesE_push (h : NodesE z B E v f) (hB : B ≤ z.heap.size) (hn : f.len ≤ 1000) (h0 : z.heap[nb]? = some (.cells (o.cells (.slice ao k.len c)).toArray 79 (0, 0)))
    (hk : KidsV z (fun x => B ≤ x ∧ v.ownBlock ≠ some x ∧ x ∉ E) (.slice ao k.len c) k) : ∃ g cap z3, (Builtin.append_ #[57, 57] 57 #[v, .slice (some ⟨nb, 0, none⟩) 1 1]).run Tryz.prog z = .ok (.slice (some ⟨g, 0, none⟩) (f.len + 1) cap) z3 ∧
      NodesE z3 B E (.slice (some ⟨g, 0, none⟩) (f.len + 1) cap) (f.app (.cons o k .nil)) ∧ Chg v.ownBlock.toList z z3 := by
  obtain ⟨-, L, h1, h2, h3, h4⟩ := h
  obtain ⟨i0, hi, hz0, hz1, hz2⟩ := info_parts node_info3
  have hlow := fun x hx => h1.lt x hx
  obtain ⟨g, cap, z3, r1, r2, r3, r4, r5⟩ := run_append_lies (P := Tryz.prog) z 57 57 B 79 i0 (.agg (nodeL 0 0).toArray) 20 168 Tryz.underlying57 hi hz0 hz1 hz2 rfl (by decide) v f.len _ h1
    ⟨nb, 0, none⟩ 1 1 (o.cells (.slice ao k.len c)) rfl (fun j u hu => by rw [Addr.add_lit]; exact cell_of h0 (by simpa using hu)) (fun u hu => by
      have := ow_one o ao k.len c
      exact (Array.all_eq_true_iff_forall_mem.1 this) u (by simpa using hu)) (by omega) (by unfold maxLen; omega) (by omega) (by omega) z.heap.size rfl
  have c1 : Chg v.ownBlock.toList z z3 := (Chg.refl _ z).grown r3 (fun x hx => .inl (by simp [hx]))
  have step : ∀ {kv : Value} {q : Fo}, KidsV z (fun x => B ≤ x ∧ v.ownBlock ≠ some x ∧ x ∉ E) kv q → KidsV z3 (fun x => B ≤ x ∧ (Value.slice (some ⟨g, 0, none⟩) (f.len + 1) cap).ownBlock ≠ some x ∧ x ∉ E) kv q := fun {kv q} hq =>
    (hq.lt.chg c1 (fun x hx hb => hb.1.2.1 (by simpa using hx))).mono (fun x hx => ⟨hx.1.1, by
      simp only [Value.ownBlock, ne_eq, Option.some.injEq]
      intro e
      rcases r4 with h5 | h5
      · exact hx.1.2.1 (by rw [← e]; exact h5)
      · have := hx.2; omega, hx.1.2.2⟩)
  refine ⟨g, cap, z3, r1, ⟨fun hf => (by cases f <;> cases hf), L ++ [o.cells (.slice ao k.len c)], ?_, ?_, ?_, ?_⟩, c1⟩
  · rw [Fo.len_app, List.flatten_append]
    simpa [Fo.len] using r2
  · rw [Fo.len_app, List.length_append, h2]; rfl
  · intro c' hc'
    rcases List.mem_append.1 hc' with h5 | h5
    · exact h3 c' h5
    · simp only [List.mem_singleton] at h5
      subst h5
      rfl
  · intro j o' k' hj
    rcases get_app hj with h5 | ⟨rfl, rfl, rfl⟩
    · obtain ⟨ao', c', h6, h7⟩ := h4 j o' k' h5
      refine ⟨ao', c', ?_, step h7⟩
      rw [List.getElem?_append_left (List.getElem?_eq_some_iff.1 h6).1]; exact h6
    · refine ⟨ao, c, ?_, step hk⟩
      rw [← h2, List.getElem?_append_right (Nat.le_refl _), Nat.sub_self]; rfl
end
/-- n nodes in a row -/
def foN (o : Nat → Ow) (ks : Nat → Fo) : Nat → Fo
  | 0 => .nil
  | n + 1 => (foN o ks n).app (.cons (o n) (ks n) .nil)
theorem foN_len (o : Nat → Ow) (ks : Nat → Fo) : ∀ n, (foN o ks n).len = n
  | 0 => rfl
  | n + 1 => by rw [foN, Fo.len_app, foN_len o ks n]; rfl
theorem Fo.get_app_lt : ∀ {f g : Fo} {j : Nat}, j < f.len → (f.app g).get j = f.get j
  | .nil, _, _, h => absurd h (Nat.not_lt_zero _)
  | .cons o k r, g, 0, _ => rfl
  | .cons o k r, g, j + 1, h => by
    show (r.app g).get j = r.get j
    exact Fo.get_app_lt (by rw [Fo.len] at h; omega)
theorem Fo.get_app_at : ∀ {f : Fo} {o : Ow} {k r : Fo}, (f.app (.cons o k r)).get f.len = some (o, k)
  | .nil, _, _, _ => rfl
  | .cons o' k' r', o, k, r => by
    show (r'.app (.cons o k r)).get r'.len = _
    exact Fo.get_app_at
theorem foN_get (o : Nat → Ow) (ks : Nat → Fo) : ∀ {n i : Nat}, i < n → (foN o ks n).get i = some (o i, ks i)
  | n + 1, i, h => by
    rw [foN]
    by_cases e : i < n
    · rw [Fo.get_app_lt (by rw [foN_len]; exact e)]
      exact foN_get o ks e
    · have : i = (foN o ks n).len := by rw [foN_len]; omega
      rw [this, Fo.get_app_at, foN_len]
end Go.Proofs.YtpcjfgihglfdgaaGreatDoor

namespace Go.Proofs.YtpcjfgihglfdgaaGreatDoor
open Go.RowKit Go.Lib

/-- a node's kind: none of names, areas of names, tables; a call is SUM -/
def Plain (o : Ow) : Prop := o.k ≠ 7 ∧ o.k ≠ 8 ∧ o.k ≠ 14 ∧ o.k ≠ 16 ∧ (o.k = 12 → o.s = textSUM)
def PlainF : Fo → Prop
  | .nil => True
  | .cons o k r => Plain o ∧ PlainF k ∧ PlainF r
theorem row_at {w : World} {b : Nat} {cs : List Value} {t : TypeId} (h : w.heap[b]? = some (.cells cs.toArray t (0, 0))) : w.rangeAt b 0 cs := fun j v hj => by
  rw [Nat.zero_add]
  exact cell_of h (by simpa using hj)
/-- expand's contract at a node -/
def ExpOk (o : Ow) (ks : Fo) : Prop := ∀ (xb m : Nat) (z : World) (B : Nat → Prop) (s : Int) (lv : Value) (ao : Option Addr) (c : Nat), Xp xb m z → m + mF ks + 1 ≤ 200 → KidsV z B (.slice ao ks.len c) ks → ¬ B xb → LocV z lv →
  Calls Tryz.prog 155 #[.pointer (some ⟨xb, 0, none⟩), .agg (o.cells (.slice ao ks.len c)).toArray, .agg (viewC s lv).toArray] z fun e z' =>
    ∃ ao' c', e = .returned (.agg (o.cells (.slice ao' ks.len c')).toArray) ∧ KidsV z' (z.heap.size ≤ ·) (.slice ao' ks.len c') ks ∧ Xp xb (m + mF ks + 1) z' ∧ Chg [xb] z z'
/-- what stands while the kids are expanded -/
structure Kd (xb m g : Nat) (ks : Fo) (nd vw : List Value) (w y : World) (j : Nat) (v : Value) : Prop where
  le : j ≤ ks.len
  xp : Xp xb (m + mP ks j) y
  own : NodesOwn y (g + 2) v (ks.take j)
  nd : NdV g nd y
  vw : y.heap[g + 1]? = some (.cells vw.toArray 262 (0, 0))
  chg : Chg [xb] w y
/-- within a round -/
structure Ke (xb m g h : Nat) (nd vw kd : List Value) (y z : World) : Prop where
  xp : Xp xb m z
  nd : NdV g nd z
  vw : z.heap[g + 1]? = some (.cells vw.toArray 262 (0, 0))
  kd : NdV h kd z
  chg : Chg [xb] y z
section
variable {xb m m' g h : Nat} {nd vw kd : List Value} {y z z' : World}
theorem Ke.keep (q : Ke xb m g h nd vw kd y z) (hb : Below z.heap.size z z') : Ke xb m g h nd vw kd y z' :=
  ⟨q.xp.keep hb, (hb.block _ (heap_lt q.nd)).trans q.nd, (hb.block _ (heap_lt q.vw)).trans q.vw, (hb.block _ (heap_lt q.kd)).trans q.kd, q.chg.trans (Chg.of_below (F := []) hb) (by simp)⟩
theorem Ke.call (q : Ke xb m g h nd vw kd y z) (hx : xb < g ∧ xb < h) (hp : Xp xb m' z') (hc : Chg [xb] z z') : Ke xb m' g h nd vw kd y z' :=
  ⟨hp, hc.heap q.nd (by simp only [List.mem_singleton]; omega), hc.heap q.vw (by simp only [List.mem_singleton]; omega), hc.heap q.kd (by simp only [List.mem_singleton]; omega), q.chg.trans hc (by simp)⟩
theorem Ke.S (q : Ke xb m g h nd vw kd y z) : z.heap[h]? = some (.cells kd.toArray 79 (0, 0)) ∧ z.heap[g + 1]? = some (.cells vw.toArray 262 (0, 0)) ∧ z.heap[g]? = some (.cells nd.toArray 79 (0, 0)) := ⟨q.kd, q.vw, q.nd⟩
end
theorem mF_get {f : Fo} {j : Nat} {o : Ow} {k : Fo} (h : f.get j = some (o, k)) : mP f j + mF k + 1 ≤ mF f := by
  have h1 := mP_step h
  have h2 := mP_le (f := f) (j + 1)
  omega
set_option maxRecDepth 20000 in
set_option maxHeartbeats 2000000 in
theorem kids_step (o : Ow) (ks : Fo) (h14 : o.k ≠ 14) (h16 : o.k ≠ 16) (H : ∀ j o' k', ks.get j = some (o', k') → ExpOk o' k') {xb m : Nat} {w : World} {B : Nat → Prop} {s : Int} {lv : Value} {ao : Option Addr} {c : Nat} (hx : Xp xb m w) (hm : m + mF ks ≤ 200)
    (hv : KidsV w B (.slice ao ks.len c) ks) (hB : ¬ B xb) (hl : LocV w lv) :
    Calls Tryz.prog 222 #[.pointer (some ⟨xb, 0, none⟩), .agg (o.cells (.slice ao ks.len c)).toArray, .agg (viewC s lv).toArray] w fun e z' =>
      ∃ ao' c', e = .returned (.slice ao' ks.len c') ∧ KidsV z' (w.heap.size ≤ ·) (.slice ao' ks.len c') ks ∧ Xp xb (m + mF ks) z' ∧ Chg [xb] w z' := by
  obtain ⟨n, hn⟩ : ∃ n, n = ks.len := ⟨_, rfl⟩
  have HN := hid hn
  have XH := hid H
  have HM := hid hm
  have HL := hid hl
  have HV := hid hv
  have HB := hid hB
  have HX := hid hx
  rw [← hn]
  have hxw := hx.lt
  have XK := hid (fun j w => known_none o h14 h16 ao n c j w)
  have b0 := ((Below.refl w.heap.size w).alloc (Nat.le_refl _) (.cells (o.cells (.slice ao n c)).toArray 79)).alloc (by simp) (.cells (viewC s lv).toArray 262)
  obtain ⟨bb, ff, hbf⟩ : ∃ b f, ks = .nil ∨ (ao = some ⟨b, f, none⟩ ∧ B b ∧ FoAt w B ks b f) := by
    obtain ⟨ao', c', e, h⟩ := hv
    rcases h with h | ⟨b', f', e', hb, h⟩
    · exact ⟨0, 0, .inl h.1⟩
    · exact ⟨b', f', .inr ⟨by cases e; exact e'.1, hb, h⟩⟩
  have HBF := hid hbf
  have A0 : NdV w.heap.size (o.cells (.slice ao n c)) ((w.alloc (.cells (o.cells (.slice ao n c)).toArray 79)).alloc (.cells (viewC s lv).toArray 262)) := heap_alloc_keep (heap_alloc_new w _) _
  have A1 : ((w.alloc (.cells (o.cells (.slice ao n c)).toArray 79)).alloc (.cells (viewC s lv).toArray 262)).heap[w.heap.size + 1]? = some (.cells (viewC s lv).toArray 262 (0, 0)) := heap_alloc2_new w _ _
  have a19 := cell_of (i := 19) A0 rfl
  have HS := hid (show Kd xb m w.heap.size ks (o.cells (.slice ao n c)) (viewC s lv) w _ 0 (.slice none 0 0) from ⟨Nat.zero_le _, by rw [mP_zero]; exact hx.keep b0, by rw [Fo.take_zero]; exact .nil _ _, A0, A1, Chg.of_below b0⟩)
  obtain ⟨g, hg⟩ : ∃ g, g = w.heap.size := ⟨_, rfl⟩
  have HG := hid (show g = w.heap.size ∧ xb < g from ⟨hg, by omega⟩)
  have hsm : (n : Int) ≤ 1000 := by
    have : ks.len ≤ mF ks := len_le ks
    omega
  clear A0 A1 b0 hn h14 h16 H hx hm hv hB hl hbf hxw
  go_enter Tryz.func222, Tryz.ntmps222
  go_wp2_with fail
  generalize World.alloc (World.alloc _ _) _ = w0 at HS a19 ⊢
  rw [← hg] at HS a19 ⊢
  clear hg
  go_loopw [7, 13] (fun v7 v wr => ∃ j : Nat, v = .int .i64 j ∧ Kd xb m g ks (o.cells (.slice ao n c)) (viewC s lv) w wr j v7) (fun _ v _ => n - (intOf v).toNat)
  case atStart => exact ⟨0, rfl, HS.out⟩
  case round =>
    obtain ⟨j, rfl, hs⟩ := hrel
    have HS1 := hid hs
    have hjn : j ≤ n := by rw [HN.out]; exact hs.le
    clear hs HS
    rcases Nat.lt_or_ge j n with hlt | hge
    · obtain ⟨o', k', hgj⟩ := Fo.get_of_lt (f := ks) (j := j) (by rw [← HN.out]; exact hlt)
      have hfo : FoAt wr B ks bb ff ∧ ao = some ⟨bb, ff, none⟩ := by
        rcases HBF.out with h | h
        · rw [h] at hgj; cases hgj
        · exact ⟨h.2.2.chg HS1.out.chg (fun x hx hb => HB.out (by simp only [List.mem_singleton] at hx; exact hx ▸ hb)) (fun hx => HB.out (by simp only [List.mem_singleton] at hx; exact hx ▸ h.2.1)), h.1⟩
      obtain ⟨hfo, rfl⟩ := hfo
      obtain ⟨ao', c', h1, h2⟩ := hfo.get hgj
      obtain ⟨n', hn'⟩ : ∃ n', n' = k'.len := ⟨_, rfl⟩
      have XN := hid hn'
      have HJ := hid hgj
      have h2' : KidsV wr B (.slice ao' n' c') k' := by rw [hn']; exact h2
      rw [← hn'] at h1
      have hwr : wr.heap.size > g + 1 := heap_lt HS1.out.vw
      have HR := hid h1
      have b2 := (((Chg.refl [] wr).alloc (.cells (nodeL 0 0).toArray 79)).setRow (.inr (Nat.le_refl _)) (o'.cells (.slice ao' n' c')).toArray).nil_below
      have HK0 := hid (show Ke xb (m + mP ks j) g wr.heap.size (o.cells (.slice (some ⟨bb, ff, none⟩) n c)) (viewC s lv) (o'.cells (.slice ao' n' c')) wr ((wr.alloc (.cells (nodeL 0 0).toArray 79)).setRow wr.heap.size (o'.cells (.slice ao' n' c')).toArray) from
        ⟨HS1.out.xp.keep b2, (b2.block _ (by omega)).trans HS1.out.nd, (b2.block _ (by omega)).trans HS1.out.vw, heap_setRow_at (heap_alloc_new wr _), Chg.of_below b2⟩)
      have HV2 := hid (h2'.keep b2)
      have HZ := hid hwr
      have hw0 : Nat := wr.heap.size
      obtain ⟨hh, hhh⟩ : ∃ hh, hh = wr.heap.size := ⟨_, rfl⟩
      clear h1 h2 h2' hfo hn' b2 hgj hjn hw0
      go_wp2_with (first | (refine wpList_load_mid rfl 79 _ rfl bb (ff + j * 20) rfl _ _ HR.out Tryz.underlying79 rfl (ow_info o' (.slice ao' n' c')) ?_) | (refine wpList_store_row rfl 79 _ _ rfl wr.heap.size (o'.cells (.slice ao' n' c')).toArray rfl rfl 79 _ (heap_alloc_new wr _) (node_info 0 0) (by rfl) (ow_one o' ao' n' c') ?_))
      generalize World.setRow (World.alloc _ _) _ _ = w0 at HK0 HV2 ⊢
      rw [← hhh] at HK0 ⊢
      have HH := hid (show hh = wr.heap.size ∧ g + 1 < hh from ⟨hhh, by rw [hhh]; exact hwr⟩)
      clear hhh hwr
      refine wp_region_held_drew (S := fun z => z.heap[hh]? = some (.cells (o'.cells (.slice ao' n' c')).toArray 79 (0, 0)) ∧ z.heap[g + 1]? = some (.cells (viewC s lv).toArray 262 (0, 0)) ∧ z.heap[g]? = some (.cells (o.cells (.slice (some ⟨bb, ff, none⟩) n c)).toArray 79 (0, 0))) (by kernel_rfl) (HK0.out.keep (Below.refl _ _).drew).S (fun hS => ?_)
      refine wpAnyH_take (i := 0) (oi := ⟨some 18, Op.move (Operand.tmp 7), 57, "names.go:153", #[], none⟩) (v := ?_) rfl (by kernel_rfl) (by kernel_rfl) (by kernel_rfl) (fun _ _ _ h => h) (Or.inl ⟨by rfl, ?_⟩) hS ?_
      rotate_left 1
      · rintro wx ⟨s0, s1, s2⟩
        (go_simp <;> (try with_reducible rfl))
      try simp only [Act.put, List.setIfInBounds_toArray, List.set_cons_zero, List.set_cons_succ]
      refine wpAnyH_take (i := 1) (oi := ⟨some 19, Op.move (Operand.tmp 0), 255, "names.go:153", #[], none⟩) (v := ?_) rfl (by kernel_rfl) (by kernel_rfl) (by kernel_rfl) (fun _ _ _ h => h) (Or.inl ⟨by rfl, ?_⟩) hS ?_
      rotate_left 1
      · rintro wx ⟨s0, s1, s2⟩
        (go_simp <;> (try with_reducible rfl))
      try simp only [Act.put, List.setIfInBounds_toArray, List.set_cons_zero, List.set_cons_succ]
      refine wpAnyH_take (i := 2) (oi := ⟨some 20, Op.load 79 (Operand.tmp 9), 79, "names.go:153", #[], none⟩) rfl (by kernel_rfl) (by kernel_rfl) (by kernel_rfl) (fun _ _ _ h => h) (yieldsIf_load_mid (by rfl) 79 _ rfl hh 0 rfl (o'.cells (.slice ao' n' c')) _ ?_ Tryz.underlying79 rfl (ow_info o' (.slice ao' n' c'))) hS ?_
      · exact fun _ hw => row_at hw.1
      try simp only [Act.put, List.setIfInBounds_toArray, List.set_cons_zero, List.set_cons_succ]
      refine wpAnyH_take (i := 3) (oi := ⟨some 21, Op.load 262 (Operand.tmp 5), 262, "names.go:153", #[], none⟩) rfl (by kernel_rfl) (by kernel_rfl) (by kernel_rfl) (fun _ _ _ h => h) (yieldsIf_load_mid (by rfl) 262 _ rfl (g + 1) 0 rfl (viewC s lv) _ ?_ Tryz.underlying262 rfl (view_info s lv)) hS ?_
      · exact fun _ hw => row_at hw.2.1
      try simp only [Act.put, List.setIfInBounds_toArray, List.set_cons_zero, List.set_cons_succ]
      refine wpAnyH_take (i := 4) (oi := ⟨some 22, Op.load 79 (Operand.tmp 4), 79, "names.go:153", #[], none⟩) rfl (by kernel_rfl) (by kernel_rfl) (by kernel_rfl) (fun _ _ _ h => h) (yieldsIf_load_mid (by rfl) 79 _ rfl g 0 rfl (o.cells (.slice (some ⟨bb, ff, none⟩) n c)) _ ?_ Tryz.underlying79 rfl (ow_info o (.slice (some ⟨bb, ff, none⟩) n c))) hS ?_
      · exact fun _ hw => row_at hw.2.2
      try simp only [Act.put, List.setIfInBounds_toArray, List.set_cons_zero, List.set_cons_succ]
      refine wpAnyH_take (i := 5) (oi := ⟨some 23, Op.move (Operand.tmp 8), 3, "names.go:153", #[], none⟩) (v := ?_) rfl (by kernel_rfl) (by kernel_rfl) (by kernel_rfl) (fun _ _ _ h => h) (Or.inl ⟨by rfl, ?_⟩) hS ?_
      rotate_left 1
      · rintro wx ⟨s0, s1, s2⟩
        (go_simp <;> (try with_reducible rfl))
      try simp only [Act.put, List.setIfInBounds_toArray, List.set_cons_zero, List.set_cons_succ]
      have HK1 := hid (show Ke xb (m + mP ks j) g hh (o.cells (.slice (some ⟨bb, ff, none⟩) n c)) (viewC s lv) (o'.cells (.slice ao' n' c')) wr w0.drew from HK0.out.keep (Below.refl _ _).drew)
      have HV3 := hid (show KidsV w0.drew B (.slice ao' n' c') k' from HV2.out.keep (Below.refl _ _).drew)
      generalize World.drew w0 = w1 at HK1 HV3 ⊢
      refine wpAnyH_ready (rs := [6]) (by kernel_rfl) (by simp) ?_
      refine AllReadyH.cons (o := ⟨some 24, Op.call { callee := Callee.value (Operand.func 285), args := #[Operand.tmp 22, Operand.tmp 23], argTypes := #[79, 3] }, 151, "names.go:153", #[⟨4, .data⟩, ⟨5, .data⟩], none⟩) rfl (fun K hK => ?_) AllReadyH.nil
      go_simp; refine (XK.out _ _).mono ?_; rintro e w2 ⟨rfl, b2⟩; have HK2 := hid (HK1.out.keep b2); have HV4 := hid (HV3.out.keep b2); clear b2
      refine hK.out _ _ HK2.out.S (fun hS2 => ?_)
      clear hK K hS
      revert hS2; intro hS
      try simp only [Act.put, List.setIfInBounds_toArray, List.set_cons_zero, List.set_cons_succ]
      refine wpAnyH_ready (rs := [7]) (by kernel_rfl) (by simp) ?_
      refine AllReadyH.cons (o := ⟨some 25, Op.call { callee := Callee.value (Operand.func 283), args := #[Operand.tmp 21, Operand.tmp 24], argTypes := #[262, 151] }, 262, "names.go:153", #[⟨3, .data⟩, ⟨6, .data⟩, ⟨6, .chain⟩], none⟩) rfl (fun K hK => ?_) AllReadyH.nil
      go_simp; refine (with_any (HL.out.chg (HS1.out.chg.trans HK2.out.chg (by simp)) (fun x hx => by simp only [List.mem_singleton] at hx; obtain ⟨⟨_, _, _, _, h⟩, _⟩ := HX.out; exact ⟨_, _, _, hx ▸ h⟩))).mono ?_; rintro e w3 ⟨lv', rfl, hl3, b3⟩; have HK3 := hid (HK2.out.keep b3); have HV5 := hid (HV4.out.keep b3); have HL3 := hid hl3; clear b3 hl3
      refine hK.out _ _ HK3.out.S (fun hS2 => ?_)
      clear hK K hS
      revert hS2; intro hS
      try simp only [Act.put, List.setIfInBounds_toArray, List.set_cons_zero, List.set_cons_succ]
      refine wpAnyH_ready (rs := [8]) (by kernel_rfl) (by simp) ?_
      refine AllReadyH.cons (o := ⟨some 26, Op.call { callee := Callee.value (Operand.func 155), args := #[Operand.tmp 19, Operand.tmp 20, Operand.tmp 25], argTypes := #[255, 79, 262] }, 79, "names.go:153", #[⟨1, .data⟩, ⟨2, .data⟩, ⟨7, .data⟩, ⟨7, .chain⟩], none⟩) rfl (fun K hK => ?_) AllReadyH.nil
      go_simp; refine (show Calls _ _ _ _ _ from (by have := XH.out j o' k' HJ.out xb (m + mP ks j) w3 B s lv' ao' c' HK3.out.xp (by have := mF_get HJ.out; have := HM.out; omega) (by rw [← XN.out]; exact HV5.out) HB.out HL3.out; rw [← XN.out] at this; exact this)).mono ?_; rintro e w4 ⟨ao2, c2, rfl, hk4, hx4, hc4⟩; have HK4 := hid (HK3.out.call (by have := HG.out; have := HH.out; omega) hx4 hc4); have HV6 := hid (hk4.mono (fun x hx => Nat.le_trans HK3.out.chg.size hx)); clear hk4 hx4 hc4
      refine hK.out _ _ HK4.out.S (fun hS2 => ?_)
      clear hK K hS
      revert hS2; intro hS
      try simp only [Act.put, List.setIfInBounds_toArray, List.set_cons_zero, List.set_cons_succ]
      refine wpAnyH_ready (rs := [9]) (by kernel_rfl) (by simp) ?_
      refine AllReadyH.cons (o := ⟨some 27, Op.buildSlice 57 1 #[(0, Operand.tmp 26)], 57, "names.go:153", #[⟨8, .data⟩], none⟩) rfl (fun K hK => ?_) AllReadyH.nil
      go_simp
      refine hK.out _ _ (HK4.out.keep ((Below.refl _ _).alloc (Nat.le_refl _) _)).S (fun hS2 => ?_)
      clear hK K hS
      revert hS2; intro hS
      try simp only [Act.put, List.setIfInBounds_toArray, List.set_cons_zero, List.set_cons_succ]
      have HK5 := hid (HK4.out.keep ((Below.refl _ _).alloc (Nat.le_refl _) (.cells (o'.cells (.slice ao2 n' c2)).toArray 79)))
      have HV7 := hid (HV6.out.keep ((Below.refl _ _).alloc (Nat.le_refl _) (.cells (o'.cells (.slice ao2 n' c2)).toArray 79)))
      have HW := hid (heap_alloc_new w4 (.cells (o'.cells (.slice ao2 n' c2)).toArray 79))
      have hlj : (ks.take j).len = j := Fo.len_take HS1.out.le
      have hpush := nodes_push (o := o') (k := k') (ao := ao2) (c := c2) HS1.out.own (by have := heap_lt HS1.out.vw; omega) (by rw [hlj]; omega) HK5.out.chg (by have := HG.out; simp only [List.mem_singleton, forall_eq]; omega) (by rw [← XN.out]; exact HW.out) (by rw [← XN.out]; exact HV7.out)
      rw [← Fo.take_step HJ.out, hlj] at hpush
      obtain ⟨gg, cap, z3, r1, r2, r3⟩ := hpush
      have hfar := HS1.out.own.low
      have hF3 : ∀ x ∈ u7.ownBlock.toList, g + 2 ≤ x ∧ wr.heap.size > x := fun x hx => hfar x hx
      have HC3 := hid r3
      have HF3 := hid hF3
      have HS3 := hid (show Kd xb m g ks (o.cells (.slice (some ⟨bb, ff, none⟩) n c)) (viewC s lv) w z3 (j + 1) (.slice (some ⟨gg, 0, none⟩) (j + 1) cap) from
      ⟨by have := Fo.get_lt HJ.out; omega, by
      rw [mP_step HJ.out]
      have e : m + (mP ks j + (mF k' + 1)) = m + mP ks j + mF k' + 1 := by omega
      rw [e]
      exact HK5.out.xp.chg r3 (fun x hx => by have := (hF3 x hx).1; have := HG.out; omega), r2, r3.heap HK5.out.nd (fun hx => by have := (hF3 _ hx).1; omega), r3.heap HK5.out.vw (fun hx => by have := (hF3 _ hx).1; omega),
      (HS1.out.chg.trans HK5.out.chg (by simp)).trans r3 (fun x hx => .inr (by have := (hF3 x hx).1; have := HG.out; omega))⟩)
      have R1 := hid r1
      have SS := hid (show z3.heap[hh]? = some (.cells (o'.cells (.slice ao' n' c')).toArray 79 (0, 0)) ∧ z3.heap[g + 1]? = some (.cells (viewC s lv).toArray 262 (0, 0)) ∧ z3.heap[g]? = some (.cells (o.cells (.slice (some ⟨bb, ff, none⟩) n c)).toArray 79 (0, 0)) from ⟨r3.heap HK5.out.kd (fun hx => by have := (hF3 _ hx).2; have := HH.out; omega), HS3.out.vw, HS3.out.nd⟩)
      clear r1 r2 r3 hfar hF3 hlj
      generalize World.alloc w4 _ = w5 at R1 hS ⊢
      refine wpAnyH_ready (rs := [10]) (by kernel_rfl) (by simp) ?_
      refine AllReadyH.cons (o := ⟨some 28, Op.call { callee := Callee.builtin Builtin.append, args := #[Operand.tmp 18, Operand.tmp 27], argTypes := #[57, 57] }, 57, "names.go:153", #[⟨0, .data⟩, ⟨9, .data⟩, ⟨8, .chain⟩], none⟩) rfl (fun K hK => ?_) AllReadyH.nil
      refine step_append_eq rfl _ _ _ rfl rfl rfl R1.out ?_
      refine hK.out _ _ SS.out (fun hS2 => ?_)
      clear hK K hS
      revert hS2; intro hS
      try simp only [Act.put, List.setIfInBounds_toArray, List.set_cons_zero, List.set_cons_succ]
      refine wpAnyH_ready (rs := [11]) (by kernel_rfl) (by simp) ?_
      refine AllReadyH.cons (o := ⟨some 7, Op.assign (Operand.tmp 28), 57, "names.go:153", #[⟨10, .data⟩, ⟨10, .chain⟩, ⟨0, .phase⟩, ⟨1, .phase⟩, ⟨2, .phase⟩, ⟨3, .phase⟩, ⟨4, .phase⟩, ⟨5, .phase⟩, ⟨6, .phase⟩, ⟨7, .phase⟩, ⟨8, .phase⟩, ⟨9, .phase⟩, ⟨10, .phase⟩], none⟩) rfl (fun K hK => ?_) AllReadyH.nil
      go_simp
      refine hK.out _ _ SS.out (fun hS2 => ?_)
      clear hK K hS
      revert hS2; intro hS
      try simp only [Act.put, List.setIfInBounds_toArray, List.set_cons_zero, List.set_cons_succ]
      refine wpAnyH_done (by kernel_rfl) ?_ _
      go_wp2_with fail
      go_roundw
      case rel => exact ⟨j + 1, by go_num, HS3.out⟩
      case measure => simp [intOf]; omega
    · have hj : j = n := by omega
      subst hj
      go_wp2_with fail
      have hq := HS1.out.own
      have hxp := HS1.out.xp
      rw [HN.out, Fo.take_len] at hq
      rw [HN.out, mP_len] at hxp
      obtain ⟨ao', c', hv7, hk⟩ := hq.kids
      go_ret
      refine ⟨ao', c', by rw [hv7, HN.out]; rfl, ?_, hxp, HS1.out.chg⟩
      rw [hv7] at hk
      rw [HN.out]
      exact hk.mono (fun x hx => by have := HG.out; omega)
end Go.Proofs.YtpcjfgihglfdgaaGreatDoor
