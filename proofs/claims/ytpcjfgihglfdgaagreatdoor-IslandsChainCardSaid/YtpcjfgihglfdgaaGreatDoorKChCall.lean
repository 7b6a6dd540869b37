/- Rules of the parser's args and call. Condition: what the package-level variables hold lies as it was laid (at a call). -/
import Derived.Test.YtpcjfgihglfdgaaGreatDoorKChExpr
import Derived.Test.YtpcjfgihglfdgaaGreatDoorKSpOwn
import Derived.Deep.AppendLies

namespace Go.Proofs.YtpcjfgihglfdgaaGreatDoor
open Go.RowKit Go.Lib

theorem step_store_mid {P : Program} {ops : Array Oper} {o : Oper} {a : Act} {w : World} {K : Act → World → Prop} {Q : Exit → Act → World → Prop} {E : Prop} (hgd : o.guard = none) (ty : TypeId) (x y : Operand) (ho : o.op = .store ty x y)
    (b f : Nat) (cells : Array Value) (hx : a.eval x = .pointer (some ⟨b, f, none⟩)) (hy : a.eval y = .agg cells)
    (ht : w.there b f cells.size) (hi : (P.info? ty).map (·.size) = some cells.size) (h1 : cells.all (·.oneCell') = true)
    (h : K (a.put o.dst undef) (w.setCells b f cells.toList)) : if Region.wanted o (yielded ops a.tmps) = true then Oper.wp P o a w K Q else E := by
  have hw : Region.wanted o (yielded ops a.tmps) = true := by simp [Region.wanted, hgd]
  rw [if_pos hw]
  exact wp_store_mid ty x y ho b f cells hx hy ht hi h1 h
theorem step_append_eq {P : Program} {ops : Array Oper} {o : Oper} {a : Act} {w : World} {K : Act → World → Prop} {Q : Exit → Act → World → Prop} {E : Prop} (hgd : o.guard = none) (s x : Operand) (t : TypeId)
    (ho : o.op = .call { callee := .builtin .append, args := #[s, x], argTypes := #[t, t] }) {v vs v' : Value} {w' : World} (hs : a.eval s = v) (hx : a.eval x = vs)
    (hr : (Builtin.append_ #[t, t] o.type #[v, vs]).run P w = .ok v' w') (h : K (a.put o.dst v') w') : if Region.wanted o (yielded ops a.tmps) = true then Oper.wp P o a w K Q else E := by
  have hw : Region.wanted o (yielded ops a.tmps) = true := by simp [Region.wanted, hgd]
  rw [if_pos hw]
  unfold Oper.wp execOp
  simp only [ho, resolve, invoke, builtin, Sem.run_bind, Sem.run_pure, Result.andThen_ok, List.map_toArray, List.map_cons, List.map_nil, hs, hx, hr]
  exact h
theorem ways2 {A G : Act → World → Prop} {Q : Prop} (main : (∀ a w, A a w → G a w) → Q) (tail : ∀ a w, A a w → G a w) : Q := main tail
theorem listed_eq {P : Program} {ops : Array Oper} {Q : Exit → Act → World → Prop} {md : Region.Mode} {S : World → Prop} {fuel : Nat} {listed : Array Bool} {a : Act} {w : World} (l : Array Bool) (h : listed = l) (H : wpAnyH P md ops Q S fuel l a w) : wpAnyH P md ops Q S fuel listed a w := h ▸ H
theorem setCell_apart (w : World) {a b : Addr} (u v : Value) (h : a.block ≠ b.block) : (w.setCell a u).setCell b v = (w.setCell b v).setCell a u := by
  unfold World.setCell
  congr 1
  apply Array.ext_getElem?
  intro i
  simp only [Array.getElem?_modify]
  by_cases h1 : b.block = i
  · subst h1
    rw [if_neg h]
    simp [h]
  · by_cases h2 : a.block = i
    · subst h2
      simp [h1]
    · simp [h1, h2]
theorem setCells_apart {g g2 : Nat} (h : g ≠ g2) (u : Value) : ∀ (vs : List Value) (o : Nat) (w : World), (w.setCell ⟨g2, 0, none⟩ u).setCells g o vs = (w.setCells g o vs).setCell ⟨g2, 0, none⟩ u
  | [], _, _ => rfl
  | v :: r, o, w => by
    show ((w.setCell ⟨g2, 0, none⟩ u).setCell ⟨g, o, none⟩ v).setCells g (o + 1) r = ((w.setCell ⟨g, o, none⟩ v).setCells g (o + 1) r).setCell ⟨g2, 0, none⟩ u
    rw [setCell_apart w u v (show g2 ≠ g from h.symm), setCells_apart h u r]
theorem chg_setCells (g : Nat) : ∀ (vs : List Value) (o : Nat) (w : World), Chg [g] w (w.setCells g o vs)
  | [], _, w => Chg.refl _ w
  | v :: r, o, w => ((Chg.refl [g] w).setCell (.inl (by simp)) v).trans (chg_setCells g r (o + 1) _) (by simp)
theorem owns_setCells {base : Nat} {e : TypeId} {size n g cap : Nat} : ∀ (vs : List Value) (A Z : List Value) (w : World), w.ownsRow base e size (.slice (some ⟨g, 0, none⟩) n cap) n (A ++ Z) → Z.length = vs.length →
    (w.setCells g A.length vs).ownsRow base e size (.slice (some ⟨g, 0, none⟩) n cap) n (A ++ vs)
  | [], A, Z, w, h, hz => by
    have : Z = [] := List.length_eq_zero_iff.1 hz
    subst this
    exact h
  | v :: r, A, [], w, h, hz => by simp at hz
  | v :: r, A, z :: Z, w, h, hz => by
    have h1 := (h.stored A.length v).1
    rw [List.set_append_right _ _ (Nat.le_refl _), Nat.sub_self, List.set_cons_zero] at h1
    have e1 : A ++ v :: Z = (A ++ [v]) ++ Z := by simp
    rw [e1] at h1
    have h2 := owns_setCells r (A ++ [v]) Z _ h1 (by simpa using hz)
    rw [List.length_append, List.length_singleton] at h2
    have e2 : A ++ v :: r = (A ++ [v]) ++ r := by simp
    rw [e2]
    exact h2
theorem flat20 : ∀ (L : List (List Value)), (∀ c ∈ L, c.length = 20) → L.flatten.length = L.length * 20
  | [], _ => rfl
  | c :: L, h => by
    rw [List.flatten_cons, List.length_append, flat20 L (fun c hc => h c (List.mem_cons_of_mem _ hc)), h c (by simp), List.length_cons]
    omega
theorem node_info3 : (Tryz.prog.info? 79).map (fun i => (i.zero, i.size, i.bytes)) = some (some (.agg (nodeL 0 0).toArray), 20, 168) := by kernel_rfl

/-- nodes in a row of the call's own -/
def NodesOwn (y : World) (B : Nat) (v : Value) (f : Fo) : Prop :=
  (f = .nil → v = .slice none 0 0) ∧ ∃ L : List (List Value), y.ownsRow B 79 20 v f.len L.flatten ∧ L.length = f.len ∧ (∀ c ∈ L, c.length = 20) ∧
    ∀ (j : Nat) (o : Ow) (k : Fo), f.get j = some (o, k) → ∃ ao c, L[j]? = some (o.cells (.slice ao k.len c)) ∧ KidsV y (fun x => B ≤ x ∧ v.ownBlock ≠ some x) (.slice ao k.len c) k
theorem NodesOwn.nil (y : World) (B : Nat) : NodesOwn y B (.slice none 0 0) .nil := ⟨fun _ => rfl, [], World.ownsRow_nil _ _ _ _, rfl, by simp, fun j o k h => by cases h⟩
theorem get_app {f : Fo} {o : Ow} {k : Fo} : ∀ {j : Nat} {o' : Ow} {k' : Fo}, (f.app (.cons o k .nil)).get j = some (o', k') → (f.get j = some (o', k')) ∨ (j = f.len ∧ o' = o ∧ k' = k) := by
  induction f with
  | nil =>
    intro j o' k' h
    cases j with
    | zero =>
      have e : (o, k) = (o', k') := Option.some.inj h
      obtain ⟨rfl, rfl⟩ := Prod.mk.inj e
      exact .inr ⟨rfl, rfl, rfl⟩
    | succ j => cases h
  | cons o1 k1 r _ ih =>
    intro j o' k' h
    cases j with
    | zero => exact .inl h
    | succ j =>
      rcases ih (j := j) h with h1 | ⟨h1, h2, h3⟩
      · exact .inl h1
      · exact .inr ⟨by rw [h1, Fo.len], h2, h3⟩
theorem foAt_of {y : World} {C : Nat → Prop} {b : Nat} : ∀ (f : Fo) (L : List (List Value)) (o : Nat), (∀ (j : Nat) (c : List Value), L[j]? = some c → y.rangeAt b (o + j * 20) c) → L.length = f.len →
    (∀ (j : Nat) (w : Ow) (k : Fo), f.get j = some (w, k) → ∃ ao c, L[j]? = some (w.cells (.slice ao k.len c)) ∧ KidsV y C (.slice ao k.len c) k) → FoAt y C f b o := by
  intro f
  induction f with
  | nil => intro L o _ _ _; trivial
  | cons w k r _ ih =>
    intro L o h1 h2 h3
    cases L with
    | nil => simp [Fo.len] at h2
    | cons c L =>
      obtain ⟨ao, cc, h4, h5⟩ := h3 0 w k rfl
      have e : c = w.cells (.slice ao k.len cc) := by simpa using h4
      refine FoAt.cons_iff.2 ⟨⟨_, ⟨_, rfl, h5⟩, ?_⟩, ih L (o + 20) (fun j c' hj => ?_) (by rw [Fo.len, List.length_cons] at h2; omega) (fun j w' k' hj => ?_)⟩
      · have := h1 0 c rfl
        rw [e] at this
        simpa using this
      · have := h1 (j + 1) c' hj
        have e2 : o + (j + 1) * 20 = o + 20 + j * 20 := by omega
        rwa [e2] at this
      · obtain ⟨ao', cc', h6, h7⟩ := h3 (j + 1) w' k' hj
        exact ⟨ao', cc', h6, h7⟩
/-- a row of the call's own as kids -/
theorem NodesOwn.kids {y : World} {B : Nat} {v : Value} {f : Fo} (h : NodesOwn y B v f) : ∃ ao c, v = .slice ao f.len c ∧ KidsV y (B ≤ ·) v f := by
  obtain ⟨h0, L, h1, h2, h3, h4⟩ := h
  by_cases hnil : f = .nil
  · subst hnil
    have := h0 rfl
    subst this
    exact ⟨none, 0, rfl, none, 0, rfl, .inl ⟨rfl, rfl, rfl⟩⟩
  rcases h1.2 with ⟨rfl, h5⟩ | ⟨g, cap, cur, rfl, hb, hg, _, _, _, htake⟩
  · have hz : f.len = 0 := h5
    cases f with
    | nil => exact absurd rfl hnil
    | cons o k r => rw [Fo.len] at hz; omega
  · refine ⟨_, _, rfl, _, _, rfl, .inr ⟨g, 0, ⟨rfl, hnil⟩, hb, ?_⟩⟩
    refine foAt_of f L 0 (fun j c hj => ?_) h2 (fun j o k hj => ?_)
    · intro i x hx
      have hl := h3 c (List.mem_of_getElem? hj)
      have hi : i < 20 := by have := (List.getElem?_eq_some_iff.1 hx).1; omega
      have hjn : j < f.len := by rw [← h2]; exact (List.getElem?_eq_some_iff.1 hj).1
      rw [Nat.zero_add, h1.cellAt (j * 20 + i) (by have : j * 20 + 20 ≤ f.len * 20 := by omega
                                                   omega), flat_get L h3 j i c hj hi]
      exact hx
    · obtain ⟨ao, c, h6, h7⟩ := h4 j o k hj
      exact ⟨ao, c, h6, h7.mono (fun x hx => hx.1)⟩
/-- what stands while arguments are read: the parser, its box, the list so far -/
structure Al (T : List (Int × ByteArray × Nat)) (p tb tf tc : Nat) (w : World) (g1 g2 : Nat) (y : World) (a : Nat) (v : Value) (f : Fo) : Prop where
  par : Pz T p tb tf tc a y
  box : y.heap[g1]? = some (.cells #[.pointer (some ⟨p, 0, none⟩)] 243 (0, 0))
  lst : y.heap[g2]? = some (.cells #[v] 57 (0, 0))
  own : NodesOwn y (g2 + 1) v f
  chg : Chg [p] w y
  gs : p < g1 ∧ g1 < g2 ∧ w.heap.size ≤ g1
/-- within a round -/
structure Cs (T : List (Int × ByteArray × Nat)) (p tb tf tc : Nat) (g1 g2 : Nat) (y : World) (v : Value) (a : Nat) (z : World) : Prop where
  par : Pz T p tb tf tc a z
  box : z.heap[g1]? = some (.cells #[.pointer (some ⟨p, 0, none⟩)] 243 (0, 0))
  lst : z.heap[g2]? = some (.cells #[v] 57 (0, 0))
  chg : Chg [p] y z
  gs : p < g1 ∧ g1 < g2
section
variable {T : List (Int × ByteArray × Nat)} {p tb tf tc g1 g2 : Nat} {w y z z' : World} {v : Value} {a b : Nat} {f : Fo}
theorem Cs.keep (h : Cs T p tb tf tc g1 g2 y v a z) (hb : Below z.heap.size z z') : Cs T p tb tf tc g1 g2 y v a z' :=
  ⟨h.par.keep hb, (hb.block _ (heap_lt h.box)).trans h.box, (hb.block _ (heap_lt h.lst)).trans h.lst, h.chg.trans (Chg.of_below (F := []) hb) (by simp), h.gs⟩
theorem Cs.call (h : Cs T p tb tf tc g1 g2 y v a z) (hp : Pz T p tb tf tc b z') (hc : Chg [p] z z') : Cs T p tb tf tc g1 g2 y v b z' :=
  ⟨hp, hc.heap h.box (by have := h.gs; simp only [List.mem_singleton]; omega), hc.heap h.lst (by have := h.gs; simp only [List.mem_singleton]; omega), h.chg.trans hc (by simp), h.gs⟩
theorem Al.cs (h : Al T p tb tf tc w g1 g2 y a v f) : Cs T p tb tf tc g1 g2 y v a y := ⟨h.par, h.box, h.lst, Chg.refl _ y, h.gs.1, h.gs.2.1⟩
theorem al_more {o : Ow} {k : Fo} {zb : Nat} {ao : Option Addr} {c : Nat} (h : Al T p tb tf tc w g1 g2 y a v f) (hn : f.len ≤ 1000) (hz : Cs T p tb tf tc g1 g2 y v b z) (h0 : z.heap[zb]? = some (.cells (nodeL 0 0).toArray 79 (0, 0)))
    (hk : KidsV z (y.heap.size ≤ ·) (.slice ao k.len c) k) :
    ∃ g cap z3, g ≠ g2 ∧ z3.heap[g2]? = some (.cells #[v] 57 (0, 0)) ∧ (Builtin.append_ #[57, 57] 57 #[v, .slice (some ⟨zb, 0, none⟩) 1 1]).run Tryz.prog z = .ok (.slice (some ⟨g, 0, none⟩) (f.len + 1) cap) z3 ∧ z3.there g (f.len * 20) 20 ∧
      (z3.setCells g (f.len * 20) (o.cells (.slice ao k.len c))).heap[g2]? = some (.cells #[v] 57 (0, 0)) ∧ (z3.heap[g1]? = some (.cells #[.pointer (some ⟨p, 0, none⟩)] 243 (0, 0)) ∧ (z3.setCells g (f.len * 20) (o.cells (.slice ao k.len c))).heap[g1]? = some (.cells #[.pointer (some ⟨p, 0, none⟩)] 243 (0, 0))) ∧
      Al T p tb tf tc w g1 g2 ((z3.setCells g (f.len * 20) (o.cells (.slice ao k.len c))).setCell ⟨g2, 0, none⟩ (.slice (some ⟨g, 0, none⟩) (f.len + 1) cap)) b (.slice (some ⟨g, 0, none⟩) (f.len + 1) cap) (f.app (.cons o k .nil)) := by
  obtain ⟨-, L, h1, h2, h3, h4⟩ := h.own
  obtain ⟨i0, hi, hz0, hz1, hz2⟩ := info_parts node_info3
  have hg2 : g2 < y.heap.size := heap_lt h.lst
  have hlow := fun x hx => h1.lt x hx
  have hp := h.gs
  have hown : z.ownsRow (g2 + 1) 79 20 v f.len L.flatten := hz.chg.owns h1 (fun x hx => by have := hlow x hx; simp only [List.mem_singleton]; omega)
  have hzs := hz.chg.size
  obtain ⟨g, cap, z3, r1, r2, r3, r4, r5⟩ := run_append_lies (P := Tryz.prog) z 57 57 (g2 + 1) 79 i0 (.agg (nodeL 0 0).toArray) 20 168 Tryz.underlying57 hi hz0 hz1 hz2 rfl (by decide) v f.len _ hown
    ⟨zb, 0, none⟩ 1 1 (nodeL 0 0) rfl (fun j u hu => by rw [Addr.add_lit]; exact cell_of h0 (by simpa using hu)) (fun u hu => List.all_eq_true.1 (show (nodeL 0 0).all (·.oneCell') = true by kernel_rfl) u hu) (by omega) (by unfold maxLen; omega) (by omega) (by omega) z.heap.size rfl
  have hll : L.flatten.length = f.len * 20 := by rw [← h2]; exact flat20 L h3
  have hgg : g2 + 1 ≤ g := by
    rcases r4 with h5 | h5
    · exact (hlow g h5).1
    · omega
  have t1 : z3.there g (f.len * 20) 20 := fun j hj => by
    refine ⟨?_, r2.frozenAt _⟩
    rw [r2.cellAt _ (by omega), List.getElem?_append_right (by omega), hll]
    have : f.len * 20 + j - f.len * 20 = j := by omega
    rw [this, List.getElem?_eq_getElem (by show j < 20; exact hj)]
    rfl
  have r6 := owns_setCells (o.cells (.slice ao k.len c)) L.flatten (nodeL 0 0) z3 r2 rfl
  rw [hll] at r6
  have c1 : Chg v.ownBlock.toList z z3 := (Chg.refl _ z).grown r3 (fun x hx => .inl (by simp [hx]))
  have c2 := chg_setCells g (o.cells (.slice ao k.len c)) (f.len * 20) z3
  have hgv : ∀ x, x ∈ v.ownBlock.toList → g2 + 1 ≤ x := fun x hx => (hlow x (by simpa using hx)).1
  have l1 : z3.heap[g2]? = some (.cells #[v] 57 (0, 0)) := c1.heap hz.lst (fun hx => by have := hgv _ hx; omega)
  have l2 := c2.heap l1 (by simp only [List.mem_singleton]; omega)
  have l3 := c1.heap hz.box (fun hx => by have := hgv _ hx; omega)
  refine ⟨g, cap, z3, by omega, l1, r1, t1, l2, ⟨l3, c2.heap l3 (by simp only [List.mem_singleton]; omega)⟩, ?_, ?_, ?_, ?_, ?_, h.gs⟩
  · exact (((hz.par.chg c1 (fun x hx => by have := hgv _ hx; omega)).chg c2 (by simp only [List.mem_singleton, forall_eq]; omega)).cell (by omega) 0 _)
  · exact heap_setCell_far (c2.heap (c1.heap hz.box (fun hx => by have := hgv _ hx; omega)) (by simp only [List.mem_singleton]; omega)) (by omega) _
  · exact heap_setCell_at (i := 0) l2 _
  · have c3 : Chg [g2] (z3.setCells g (f.len * 20) (o.cells (.slice ao k.len c))) ((z3.setCells g (f.len * 20) (o.cells (.slice ao k.len c))).setCell ⟨g2, 0, none⟩ (.slice (some ⟨g, 0, none⟩) (f.len + 1) cap)) := (Chg.refl _ _).setCell (.inl (by simp)) _
    refine ⟨fun hf => (by cases f <;> cases hf), L ++ [o.cells (.slice ao k.len c)], ?_, ?_, ?_, ?_⟩
    · rw [Fo.len_app, List.flatten_append]
      have := c3.owns r6 (fun x hx => by simp only [Value.ownBlock, Option.some.injEq] at hx; simp only [List.mem_singleton]; omega)
      simpa [Fo.len] using this
    · rw [Fo.len_app, List.length_append, h2]; rfl
    · intro c' hc'
      rcases List.mem_append.1 hc' with h5 | h5
      · exact h3 c' h5
      · simp only [List.mem_singleton] at h5
        subst h5
        rfl
    · intro j o' k' hj
      have far : ∀ x, x ∈ v.ownBlock.toList ++ [g] ++ [g2] → x = g2 ∨ x = g ∨ v.ownBlock = some x := fun x hx => by
        simp only [List.mem_append, List.mem_singleton] at hx
        rcases hx with (h5 | h5) | h5
        · exact .inr (.inr (by simpa using h5))
        · exact .inr (.inl h5)
        · exact .inl h5
      rcases get_app hj with h5 | ⟨rfl, rfl, rfl⟩
      · obtain ⟨ao', c', h6, h7⟩ := h4 j o' k' h5
        refine ⟨ao', c', ?_, ?_⟩
        · rw [List.getElem?_append_left (List.getElem?_eq_some_iff.1 h6).1]; exact h6
        · have h8 := h7.lt
          have h9 := h8.chg hz.chg (fun x hx => by simp only [List.mem_singleton] at hx; omega)
          have hgne : ∀ x, (g2 + 1 ≤ x ∧ v.ownBlock ≠ some x) ∧ x < y.heap.size → x ≠ g := fun x hx e => by
            rcases r4 with h5 | h5
            · exact hx.1.2 (by rw [e]; exact h5)
            · omega
          have h10 := ((h9.chg c1 (fun x hx hB => hB.1.2 (by simpa using hx))).chg c2 (fun x hx hB => hgne x hB (by simpa using hx))).chg c3 (fun x hx hB => by simp only [List.mem_singleton] at hx; omega)
          exact h10.mono (fun x hx => ⟨hx.1.1, by simp only [Value.ownBlock, ne_eq, Option.some.injEq]; exact fun e => hgne x hx e.symm⟩)
      · refine ⟨ao, c, ?_, ?_⟩
        · rw [← h2, List.getElem?_append_right (Nat.le_refl _), Nat.sub_self]; rfl
        · have h8 := hk.lt
          have hgne : ∀ x, (y.heap.size ≤ x ∧ x < z.heap.size) → x ≠ g := fun x hx e => by
            rcases r4 with h5 | h5
            · have := (hlow g h5).2; omega
            · omega
          have h10 := ((h8.chg c1 (fun x hx hB => by have := (hlow x (by simpa using hx)).2; omega)).chg c2 (fun x hx hB => hgne x hB (by simpa using hx))).chg c3 (fun x hx hB => by simp only [List.mem_singleton] at hx; omega)
          exact h10.mono (fun x hx => ⟨by omega, by simp only [Value.ownBlock, ne_eq, Option.some.injEq]; exact fun e => hgne x hx e.symm⟩)
  · have c4 : Chg [p] w z3 := (h.chg.trans hz.chg (by simp)).trans c1 (fun x hx => .inr (by have := hgv _ hx; omega))
    exact (c4.trans c2 (by simp only [List.mem_singleton, forall_eq]; right; omega)).setCell (.inr (by show _ ≤ g2; omega)) _
end
section
variable {T : List (Int × ByteArray × Nat)}
set_option maxRecDepth 20000 in
set_option maxHeartbeats 4000000 in
/-- one argument more -/
theorem arg_any {p tb tf tc g1 g2 a b : Nat} {w y : World} {v : Value} {f k : Fo} {o : Ow} (h : Al T p tb tf tc w g1 g2 y a v f) (hn : f.len ≤ 1000) (hE : ExprOk T a 1 o k b) :
    Calls Tryz.prog 341 #[.pointer (some ⟨g2, 0, none⟩), .pointer (some ⟨g1, 0, none⟩)] y fun e z => e = .returned (.tuple #[]) ∧ ∃ v', Al T p tb tf tc w g1 g2 z b v' (f.app (.cons o k .nil)) := by
  have HL := hid h
  have HN := hid hn
  have XE := hid hE
  obtain ⟨m, hm⟩ : ∃ m, m = f.len := ⟨_, rfl⟩
  obtain ⟨n, hkn⟩ : ∃ n, n = k.len := ⟨_, rfl⟩
  have XF := hid hm
  have XM := hid hkn
  obtain ⟨va, vc, hv⟩ : ∃ va vc, v = .slice va m vc := by
    obtain ⟨ao, c, e, _⟩ := h.own.kids
    exact ⟨ao, c, by rw [hm]; exact e⟩
  subst hv
  have HP := hid (show p < y.heap.size from Nat.lt_trans h.gs.1 (heap_lt h.box))
  have hmm : ((m : Int) < (m : Int) + 1) = True := by rw [eq_iff_iff, iff_true]; omega
  have c0 := cell_of (i := 0) h.lst rfl
  have c1 := cell_of (i := 0) h.box rfl
  have HC0 := hid (show Cs T p tb tf tc g1 g2 y (.slice va m vc) a y.drew from h.cs.keep (Below.refl _ _).drew)
  clear h hn hE hm hkn
  go_enter Tryz.func341, Tryz.ntmps341
  apply ways2 (A := fun (a0 : Act) (z : World) => ∃ zb ao2 c2, a0 = { tmps := #[.pointer (some ⟨g2, 0, none⟩), .pointer (some ⟨g1, 0, none⟩), .slice va m vc, .pointer (some ⟨p, 0, none⟩), .agg (o.cells (.slice ao2 n c2)).toArray, .int .i64 m, .slice (some ⟨zb, 0, none⟩) 1 1, undef, undef], defers := [] } ∧ Cs T p tb tf tc g1 g2 y (.slice va m vc) b z ∧ z.heap[zb]? = some (.cells (nodeL 0 0).toArray 79 (0, 0)) ∧ KidsV z (y.heap.size ≤ ·) (.slice ao2 k.len c2) k)
  · intro key
    refine wp_region_held_drew (S := fun z => z.cell? ⟨g1, 0, none⟩ = some (.pointer (some ⟨p, 0, none⟩))) (by kernel_rfl) c1 (fun hS => ?_)
    have cl0 := cell_of (i := 0) HC0.out.lst rfl
    refine wpAnyH_take (i := 1) (oi := ⟨some 3, Op.load 243 (Operand.tmp 1), 243, "tree.go:414", #[], none⟩) (v := ?_) rfl (by kernel_rfl) (by kernel_rfl) (by kernel_rfl) (fun _ _ _ h => h) (Or.inl ⟨by rfl, ?_⟩) hS ?_
    rotate_left 1
    · rintro wx s0
      (go_simp <;> (try with_reducible rfl))
    try simp only [Act.put, List.setIfInBounds_toArray, List.set_cons_zero, List.set_cons_succ]
    refine wpAnyH_ready (rs := [0, 2, 4]) (by kernel_rfl) (by simp) ?_
    refine AllReadyH.cons (o := ⟨some 2, Op.load 57 (Operand.tmp 0), 57, "tree.go:414", #[], none⟩) rfl (fun K hK => ?_) ?_
    rotate_left 1
    refine AllReadyH.cons (o := ⟨some 4, Op.call { callee := Callee.value (Operand.func 151), args := #[Operand.tmp 3, Operand.const (Value.int IntKind.i64 1)], argTypes := #[243, 3] }, 79, "tree.go:414", #[⟨1, .data⟩], none⟩) rfl (fun K hK => ?_) ?_
    rotate_left 1
    refine AllReadyH.cons (o := ⟨some 6, Op.buildSlice 57 1 #[(0, Operand.const (Value.agg #[Value.int IntKind.i64 0, Value.string { data := #[] }, Value.int IntKind.i64 0, Value.int IntKind.i64 0, Value.bool Bool.false, Value.int IntKind.i64 0, Value.string { data := #[] }, Value.int IntKind.i64 0, Value.int IntKind.i64 0, Value.bool Bool.false, Value.bool Bool.false, Value.bool Bool.false, Value.string { data := #[] }, Value.int IntKind.i64 0, Value.int IntKind.i64 0, Value.bool Bool.false, Value.bool Bool.false, Value.bool Bool.false, Value.int IntKind.i64 0, Value.slice Option.none 0 0]))], 57, "tree.go:414", #[], none⟩) rfl (fun K hK => ?_) AllReadyH.nil
    · go_simp; have HC11 := hid (show Cs T p tb tf tc g1 g2 y (.slice va m vc) a (y.alloc (.cells (nodeL 0 0).toArray 79)).drew from HC0.out.keep ((Below.refl _ y.drew).alloc (Nat.le_refl _) (.cells (nodeL 0 0).toArray 79))); have HZ11 := hid (show (y.alloc (.cells (nodeL 0 0).toArray 79)).drew.heap[y.heap.size]? = some (.cells (nodeL 0 0).toArray 79 (0, 0)) ∧ y.heap.size ≤ y.heap.size from And.intro (heap_alloc_new y.drew (.cells (nodeL 0 0).toArray 79)) HC0.out.chg.size); have cl11 := cell_of (i := 0) HC11.out.lst rfl; generalize World.drew (World.alloc y _) = w11 at HC11 HZ11 cl11 ⊢
      refine hK.out _ _ (cell_of (i := 0) HC11.out.box rfl) (fun hS2 => ?_)
      clear hK K hS
      revert hS2; intro hS
      try simp only [Act.put, List.setIfInBounds_toArray, List.set_cons_zero, List.set_cons_succ]
      refine wpAnyH_ready (rs := [0, 2]) (by kernel_rfl) (by simp) ?_
      refine AllReadyH.cons (o := ⟨some 2, Op.load 57 (Operand.tmp 0), 57, "tree.go:414", #[], none⟩) rfl (fun K hK => ?_) ?_
      rotate_left 1
      refine AllReadyH.cons (o := ⟨some 4, Op.call { callee := Callee.value (Operand.func 151), args := #[Operand.tmp 3, Operand.const (Value.int IntKind.i64 1)], argTypes := #[243, 3] }, 79, "tree.go:414", #[⟨1, .data⟩], none⟩) rfl (fun K hK => ?_) AllReadyH.nil
      · go_simp; refine (XE.out _ _ _ _ _ HC11.out.par).mono ?_; rintro e w14 ⟨ao2, c2, rfl, hk2, h6, hc6⟩; have HC14 := hid (HC11.out.call h6 hc6); have HK14 := hid (hk2.mono (fun x hx => Nat.le_trans HC11.out.chg.size hx)); have cl14 := cell_of (i := 0) HC14.out.lst rfl; have HZ14 := hid (And.intro (hc6.heap HZ11.out.1 (by have := HZ11.out.2; have := HP.out; simp only [List.mem_singleton]; omega)) HZ11.out.2); rw [← XM.out]; clear hk2 h6 hc6
        refine hK.out _ _ (cell_of (i := 0) HC14.out.box rfl) (fun hS2 => ?_)
        clear hK K hS
        revert hS2; intro hS
        try simp only [Act.put, List.setIfInBounds_toArray, List.set_cons_zero, List.set_cons_succ]
        refine wpAnyH_ready (rs := [0]) (by kernel_rfl) (by simp) ?_
        refine AllReadyH.cons (o := ⟨some 2, Op.load 57 (Operand.tmp 0), 57, "tree.go:414", #[], none⟩) rfl (fun K hK => ?_) AllReadyH.nil
        go_simp
        refine hK.out _ _ (cell_of (i := 0) HC14.out.box rfl) (fun hS2 => ?_)
        clear hK K hS
        revert hS2; intro hS
        try simp only [Act.put, List.setIfInBounds_toArray, List.set_cons_zero, List.set_cons_succ]
        refine wpAnyH_take (i := 3) (oi := ⟨some 5, Op.call { callee := Callee.builtin Builtin.len, args := #[Operand.tmp 2], argTypes := #[57] }, 3, "tree.go:414", #[⟨0, .data⟩], none⟩) (v := ?_) rfl (by kernel_rfl) (by kernel_rfl) (by kernel_rfl) (fun _ _ _ h => h) (Or.inl ⟨by rfl, ?_⟩) hS ?_
        rotate_left 1
        · rintro wx s0
          (go_simp <;> (try with_reducible rfl))
        try simp only [Act.put, List.setIfInBounds_toArray, List.set_cons_zero, List.set_cons_succ]
        refine listed_eq #[true, true, true, true, true, false, false, false, false] rfl ?_
        exact key _ _ ⟨y.heap.size, ao2, c2, rfl, HC14.out, HZ14.out.1, HK14.out⟩
      · go_simp
        refine hK.out _ _ (cell_of (i := 0) HC11.out.box rfl) (fun hS2 => ?_)
        clear hK K hS
        revert hS2; intro hS
        try simp only [Act.put, List.setIfInBounds_toArray, List.set_cons_zero, List.set_cons_succ]
        refine wpAnyH_take (i := 3) (oi := ⟨some 5, Op.call { callee := Callee.builtin Builtin.len, args := #[Operand.tmp 2], argTypes := #[57] }, 3, "tree.go:414", #[⟨0, .data⟩], none⟩) (v := ?_) rfl (by kernel_rfl) (by kernel_rfl) (by kernel_rfl) (fun _ _ _ h => h) (Or.inl ⟨by rfl, ?_⟩) hS ?_
        rotate_left 1
        · rintro wx s0
          (go_simp <;> (try with_reducible rfl))
        try simp only [Act.put, List.setIfInBounds_toArray, List.set_cons_zero, List.set_cons_succ]
        refine wpAnyH_ready (rs := [2]) (by kernel_rfl) (by simp) ?_
        refine AllReadyH.cons (o := ⟨some 4, Op.call { callee := Callee.value (Operand.func 151), args := #[Operand.tmp 3, Operand.const (Value.int IntKind.i64 1)], argTypes := #[243, 3] }, 79, "tree.go:414", #[⟨1, .data⟩], none⟩) rfl (fun K hK => ?_) AllReadyH.nil
        go_simp; refine (XE.out _ _ _ _ _ HC11.out.par).mono ?_; rintro e w13 ⟨ao2, c2, rfl, hk2, h6, hc6⟩; have HC13 := hid (HC11.out.call h6 hc6); have HK13 := hid (hk2.mono (fun x hx => Nat.le_trans HC11.out.chg.size hx)); have cl13 := cell_of (i := 0) HC13.out.lst rfl; have HZ13 := hid (And.intro (hc6.heap HZ11.out.1 (by have := HZ11.out.2; have := HP.out; simp only [List.mem_singleton]; omega)) HZ11.out.2); rw [← XM.out]; clear hk2 h6 hc6
        refine hK.out _ _ (cell_of (i := 0) HC13.out.box rfl) (fun hS2 => ?_)
        clear hK K hS
        revert hS2; intro hS
        try simp only [Act.put, List.setIfInBounds_toArray, List.set_cons_zero, List.set_cons_succ]
        refine listed_eq #[true, true, true, true, true, false, false, false, false] rfl ?_
        exact key _ _ ⟨y.heap.size, ao2, c2, rfl, HC13.out, HZ13.out.1, HK13.out⟩
    · go_simp
      refine hK.out _ _ (cell_of (i := 0) HC0.out.box rfl) (fun hS2 => ?_)
      clear hK K hS
      revert hS2; intro hS
      try simp only [Act.put, List.setIfInBounds_toArray, List.set_cons_zero, List.set_cons_succ]
      refine wpAnyH_take (i := 3) (oi := ⟨some 5, Op.call { callee := Callee.builtin Builtin.len, args := #[Operand.tmp 2], argTypes := #[57] }, 3, "tree.go:414", #[⟨0, .data⟩], none⟩) (v := ?_) rfl (by kernel_rfl) (by kernel_rfl) (by kernel_rfl) (fun _ _ _ h => h) (Or.inl ⟨by rfl, ?_⟩) hS ?_
      rotate_left 1
      · rintro wx s0
        (go_simp <;> (try with_reducible rfl))
      try simp only [Act.put, List.setIfInBounds_toArray, List.set_cons_zero, List.set_cons_succ]
      refine wpAnyH_ready (rs := [2, 4]) (by kernel_rfl) (by simp) ?_
      refine AllReadyH.cons (o := ⟨some 4, Op.call { callee := Callee.value (Operand.func 151), args := #[Operand.tmp 3, Operand.const (Value.int IntKind.i64 1)], argTypes := #[243, 3] }, 79, "tree.go:414", #[⟨1, .data⟩], none⟩) rfl (fun K hK => ?_) ?_
      rotate_left 1
      refine AllReadyH.cons (o := ⟨some 6, Op.buildSlice 57 1 #[(0, Operand.const (Value.agg #[Value.int IntKind.i64 0, Value.string { data := #[] }, Value.int IntKind.i64 0, Value.int IntKind.i64 0, Value.bool Bool.false, Value.int IntKind.i64 0, Value.string { data := #[] }, Value.int IntKind.i64 0, Value.int IntKind.i64 0, Value.bool Bool.false, Value.bool Bool.false, Value.bool Bool.false, Value.string { data := #[] }, Value.int IntKind.i64 0, Value.int IntKind.i64 0, Value.bool Bool.false, Value.bool Bool.false, Value.bool Bool.false, Value.int IntKind.i64 0, Value.slice Option.none 0 0]))], 57, "tree.go:414", #[], none⟩) rfl (fun K hK => ?_) AllReadyH.nil
      · go_simp; have HC4 := hid (show Cs T p tb tf tc g1 g2 y (.slice va m vc) a (y.alloc (.cells (nodeL 0 0).toArray 79)).drew from HC0.out.keep ((Below.refl _ y.drew).alloc (Nat.le_refl _) (.cells (nodeL 0 0).toArray 79))); have HZ4 := hid (show (y.alloc (.cells (nodeL 0 0).toArray 79)).drew.heap[y.heap.size]? = some (.cells (nodeL 0 0).toArray 79 (0, 0)) ∧ y.heap.size ≤ y.heap.size from And.intro (heap_alloc_new y.drew (.cells (nodeL 0 0).toArray 79)) HC0.out.chg.size); have cl4 := cell_of (i := 0) HC4.out.lst rfl; generalize World.drew (World.alloc y _) = w4 at HC4 HZ4 cl4 ⊢
        refine hK.out _ _ (cell_of (i := 0) HC4.out.box rfl) (fun hS2 => ?_)
        clear hK K hS
        revert hS2; intro hS
        try simp only [Act.put, List.setIfInBounds_toArray, List.set_cons_zero, List.set_cons_succ]
        refine wpAnyH_ready (rs := [2]) (by kernel_rfl) (by simp) ?_
        refine AllReadyH.cons (o := ⟨some 4, Op.call { callee := Callee.value (Operand.func 151), args := #[Operand.tmp 3, Operand.const (Value.int IntKind.i64 1)], argTypes := #[243, 3] }, 79, "tree.go:414", #[⟨1, .data⟩], none⟩) rfl (fun K hK => ?_) AllReadyH.nil
        go_simp; refine (XE.out _ _ _ _ _ HC4.out.par).mono ?_; rintro e w5 ⟨ao2, c2, rfl, hk2, h6, hc6⟩; have HC5 := hid (HC4.out.call h6 hc6); have HK5 := hid (hk2.mono (fun x hx => Nat.le_trans HC4.out.chg.size hx)); have cl5 := cell_of (i := 0) HC5.out.lst rfl; have HZ5 := hid (And.intro (hc6.heap HZ4.out.1 (by have := HZ4.out.2; have := HP.out; simp only [List.mem_singleton]; omega)) HZ4.out.2); rw [← XM.out]; clear hk2 h6 hc6
        refine hK.out _ _ (cell_of (i := 0) HC5.out.box rfl) (fun hS2 => ?_)
        clear hK K hS
        revert hS2; intro hS
        try simp only [Act.put, List.setIfInBounds_toArray, List.set_cons_zero, List.set_cons_succ]
        refine listed_eq #[true, true, true, true, true, false, false, false, false] rfl ?_
        exact key _ _ ⟨y.heap.size, ao2, c2, rfl, HC5.out, HZ5.out.1, HK5.out⟩
      · go_simp; refine (XE.out _ _ _ _ _ HC0.out.par).mono ?_; rintro e w2 ⟨ao2, c2, rfl, hk2, h6, hc6⟩; have HC2 := hid (HC0.out.call h6 hc6); have HK2 := hid (hk2.mono (fun x hx => Nat.le_trans HC0.out.chg.size hx)); have cl2 := cell_of (i := 0) HC2.out.lst rfl; rw [← XM.out]; clear hk2 h6 hc6
        refine hK.out _ _ (cell_of (i := 0) HC2.out.box rfl) (fun hS2 => ?_)
        clear hK K hS
        revert hS2; intro hS
        try simp only [Act.put, List.setIfInBounds_toArray, List.set_cons_zero, List.set_cons_succ]
        refine wpAnyH_ready (rs := [4]) (by kernel_rfl) (by simp) ?_
        refine AllReadyH.cons (o := ⟨some 6, Op.buildSlice 57 1 #[(0, Operand.const (Value.agg #[Value.int IntKind.i64 0, Value.string { data := #[] }, Value.int IntKind.i64 0, Value.int IntKind.i64 0, Value.bool Bool.false, Value.int IntKind.i64 0, Value.string { data := #[] }, Value.int IntKind.i64 0, Value.int IntKind.i64 0, Value.bool Bool.false, Value.bool Bool.false, Value.bool Bool.false, Value.string { data := #[] }, Value.int IntKind.i64 0, Value.int IntKind.i64 0, Value.bool Bool.false, Value.bool Bool.false, Value.bool Bool.false, Value.int IntKind.i64 0, Value.slice Option.none 0 0]))], 57, "tree.go:414", #[], none⟩) rfl (fun K hK => ?_) AllReadyH.nil
        go_simp; have HC3 := hid (show Cs T p tb tf tc g1 g2 y (.slice va m vc) b (w2.alloc (.cells (nodeL 0 0).toArray 79)) from HC2.out.keep ((Below.refl _ w2).alloc (Nat.le_refl _) (.cells (nodeL 0 0).toArray 79))); have HZ3 := hid (show (w2.alloc (.cells (nodeL 0 0).toArray 79)).heap[w2.heap.size]? = some (.cells (nodeL 0 0).toArray 79 (0, 0)) ∧ y.heap.size ≤ w2.heap.size from And.intro (heap_alloc_new w2 (.cells (nodeL 0 0).toArray 79)) HC2.out.chg.size); have HK3 := hid (show KidsV (w2.alloc (.cells (nodeL 0 0).toArray 79)) (y.heap.size ≤ ·) (.slice ao2 k.len c2) k from HK2.out.keep ((Below.refl _ w2).alloc (Nat.le_refl _) (.cells (nodeL 0 0).toArray 79))); have cl3 := cell_of (i := 0) HC3.out.lst rfl; generalize World.alloc w2 _ = w3 at HC3 HZ3 HK3 cl3 ⊢
        refine hK.out _ _ (cell_of (i := 0) HC3.out.box rfl) (fun hS2 => ?_)
        clear hK K hS
        revert hS2; intro hS
        try simp only [Act.put, List.setIfInBounds_toArray, List.set_cons_zero, List.set_cons_succ]
        refine listed_eq #[true, true, true, true, true, false, false, false, false] rfl ?_
        exact key _ _ ⟨w2.heap.size, ao2, c2, rfl, HC3.out, HZ3.out.1, HK3.out⟩
    · go_simp; refine (XE.out _ _ _ _ _ HC0.out.par).mono ?_; rintro e w6 ⟨ao2, c2, rfl, hk2, h6, hc6⟩; have HC6 := hid (HC0.out.call h6 hc6); have HK6 := hid (hk2.mono (fun x hx => Nat.le_trans HC0.out.chg.size hx)); have cl6 := cell_of (i := 0) HC6.out.lst rfl; rw [← XM.out]; clear hk2 h6 hc6
      refine hK.out _ _ (cell_of (i := 0) HC6.out.box rfl) (fun hS2 => ?_)
      clear hK K hS
      revert hS2; intro hS
      try simp only [Act.put, List.setIfInBounds_toArray, List.set_cons_zero, List.set_cons_succ]
      refine wpAnyH_ready (rs := [0, 4]) (by kernel_rfl) (by simp) ?_
      refine AllReadyH.cons (o := ⟨some 2, Op.load 57 (Operand.tmp 0), 57, "tree.go:414", #[], none⟩) rfl (fun K hK => ?_) ?_
      rotate_left 1
      refine AllReadyH.cons (o := ⟨some 6, Op.buildSlice 57 1 #[(0, Operand.const (Value.agg #[Value.int IntKind.i64 0, Value.string { data := #[] }, Value.int IntKind.i64 0, Value.int IntKind.i64 0, Value.bool Bool.false, Value.int IntKind.i64 0, Value.string { data := #[] }, Value.int IntKind.i64 0, Value.int IntKind.i64 0, Value.bool Bool.false, Value.bool Bool.false, Value.bool Bool.false, Value.string { data := #[] }, Value.int IntKind.i64 0, Value.int IntKind.i64 0, Value.bool Bool.false, Value.bool Bool.false, Value.bool Bool.false, Value.int IntKind.i64 0, Value.slice Option.none 0 0]))], 57, "tree.go:414", #[], none⟩) rfl (fun K hK => ?_) AllReadyH.nil
      · go_simp; have HC9 := hid (show Cs T p tb tf tc g1 g2 y (.slice va m vc) b (w6.alloc (.cells (nodeL 0 0).toArray 79)) from HC6.out.keep ((Below.refl _ w6).alloc (Nat.le_refl _) (.cells (nodeL 0 0).toArray 79))); have HZ9 := hid (show (w6.alloc (.cells (nodeL 0 0).toArray 79)).heap[w6.heap.size]? = some (.cells (nodeL 0 0).toArray 79 (0, 0)) ∧ y.heap.size ≤ w6.heap.size from And.intro (heap_alloc_new w6 (.cells (nodeL 0 0).toArray 79)) HC6.out.chg.size); have HK9 := hid (show KidsV (w6.alloc (.cells (nodeL 0 0).toArray 79)) (y.heap.size ≤ ·) (.slice ao2 k.len c2) k from HK6.out.keep ((Below.refl _ w6).alloc (Nat.le_refl _) (.cells (nodeL 0 0).toArray 79))); have cl9 := cell_of (i := 0) HC9.out.lst rfl; generalize World.alloc w6 _ = w9 at HC9 HZ9 HK9 cl9 ⊢
        refine hK.out _ _ (cell_of (i := 0) HC9.out.box rfl) (fun hS2 => ?_)
        clear hK K hS
        revert hS2; intro hS
        try simp only [Act.put, List.setIfInBounds_toArray, List.set_cons_zero, List.set_cons_succ]
        refine wpAnyH_ready (rs := [0]) (by kernel_rfl) (by simp) ?_
        refine AllReadyH.cons (o := ⟨some 2, Op.load 57 (Operand.tmp 0), 57, "tree.go:414", #[], none⟩) rfl (fun K hK => ?_) AllReadyH.nil
        go_simp
        refine hK.out _ _ (cell_of (i := 0) HC9.out.box rfl) (fun hS2 => ?_)
        clear hK K hS
        revert hS2; intro hS
        try simp only [Act.put, List.setIfInBounds_toArray, List.set_cons_zero, List.set_cons_succ]
        refine wpAnyH_take (i := 3) (oi := ⟨some 5, Op.call { callee := Callee.builtin Builtin.len, args := #[Operand.tmp 2], argTypes := #[57] }, 3, "tree.go:414", #[⟨0, .data⟩], none⟩) (v := ?_) rfl (by kernel_rfl) (by kernel_rfl) (by kernel_rfl) (fun _ _ _ h => h) (Or.inl ⟨by rfl, ?_⟩) hS ?_
        rotate_left 1
        · rintro wx s0
          (go_simp <;> (try with_reducible rfl))
        try simp only [Act.put, List.setIfInBounds_toArray, List.set_cons_zero, List.set_cons_succ]
        refine listed_eq #[true, true, true, true, true, false, false, false, false] rfl ?_
        exact key _ _ ⟨w6.heap.size, ao2, c2, rfl, HC9.out, HZ9.out.1, HK9.out⟩
      · go_simp
        refine hK.out _ _ (cell_of (i := 0) HC6.out.box rfl) (fun hS2 => ?_)
        clear hK K hS
        revert hS2; intro hS
        try simp only [Act.put, List.setIfInBounds_toArray, List.set_cons_zero, List.set_cons_succ]
        refine wpAnyH_take (i := 3) (oi := ⟨some 5, Op.call { callee := Callee.builtin Builtin.len, args := #[Operand.tmp 2], argTypes := #[57] }, 3, "tree.go:414", #[⟨0, .data⟩], none⟩) (v := ?_) rfl (by kernel_rfl) (by kernel_rfl) (by kernel_rfl) (fun _ _ _ h => h) (Or.inl ⟨by rfl, ?_⟩) hS ?_
        rotate_left 1
        · rintro wx s0
          (go_simp <;> (try with_reducible rfl))
        try simp only [Act.put, List.setIfInBounds_toArray, List.set_cons_zero, List.set_cons_succ]
        refine wpAnyH_ready (rs := [4]) (by kernel_rfl) (by simp) ?_
        refine AllReadyH.cons (o := ⟨some 6, Op.buildSlice 57 1 #[(0, Operand.const (Value.agg #[Value.int IntKind.i64 0, Value.string { data := #[] }, Value.int IntKind.i64 0, Value.int IntKind.i64 0, Value.bool Bool.false, Value.int IntKind.i64 0, Value.string { data := #[] }, Value.int IntKind.i64 0, Value.int IntKind.i64 0, Value.bool Bool.false, Value.bool Bool.false, Value.bool Bool.false, Value.string { data := #[] }, Value.int IntKind.i64 0, Value.int IntKind.i64 0, Value.bool Bool.false, Value.bool Bool.false, Value.bool Bool.false, Value.int IntKind.i64 0, Value.slice Option.none 0 0]))], 57, "tree.go:414", #[], none⟩) rfl (fun K hK => ?_) AllReadyH.nil
        go_simp; have HC8 := hid (show Cs T p tb tf tc g1 g2 y (.slice va m vc) b (w6.alloc (.cells (nodeL 0 0).toArray 79)) from HC6.out.keep ((Below.refl _ w6).alloc (Nat.le_refl _) (.cells (nodeL 0 0).toArray 79))); have HZ8 := hid (show (w6.alloc (.cells (nodeL 0 0).toArray 79)).heap[w6.heap.size]? = some (.cells (nodeL 0 0).toArray 79 (0, 0)) ∧ y.heap.size ≤ w6.heap.size from And.intro (heap_alloc_new w6 (.cells (nodeL 0 0).toArray 79)) HC6.out.chg.size); have HK8 := hid (show KidsV (w6.alloc (.cells (nodeL 0 0).toArray 79)) (y.heap.size ≤ ·) (.slice ao2 k.len c2) k from HK6.out.keep ((Below.refl _ w6).alloc (Nat.le_refl _) (.cells (nodeL 0 0).toArray 79))); have cl8 := cell_of (i := 0) HC8.out.lst rfl; generalize World.alloc w6 _ = w8 at HC8 HZ8 HK8 cl8 ⊢
        refine hK.out _ _ (cell_of (i := 0) HC8.out.box rfl) (fun hS2 => ?_)
        clear hK K hS
        revert hS2; intro hS
        try simp only [Act.put, List.setIfInBounds_toArray, List.set_cons_zero, List.set_cons_succ]
        refine listed_eq #[true, true, true, true, true, false, false, false, false] rfl ?_
        exact key _ _ ⟨w6.heap.size, ao2, c2, rfl, HC8.out, HZ8.out.1, HK8.out⟩
  · rintro a0 z ⟨zb, ao2, c2, rfl, hz, h0, hk⟩
    have hS : z.cell? ⟨g1, 0, none⟩ = some (.pointer (some ⟨p, 0, none⟩)) := cell_of (i := 0) hz.box rfl
    obtain ⟨g, cap, z3, ng, r0, r1, r2, r3, r5, r4⟩ := al_more (o := o) (k := k) HL.out HN.out hz h0 hk
    rw [← XF.out] at r1 r2 r3 r4 r5
    rw [← XM.out] at r3 r4 r5
    have HB3 := hid r5.1
    have HB4 := hid r5.2
    have HB5 := hid r4.box
    have HB6 := hid (show ((z3.setCell ⟨g2, 0, none⟩ (.slice (some ⟨g, 0, none⟩) (m + 1) cap)).setCells g (m * 20) (o.cells (.slice ao2 n c2))).heap[g1]? = some (.cells #[.pointer (some ⟨p, 0, none⟩)] 243 (0, 0)) from by rw [setCells_apart ng]; exact r4.box)
    have HB7 := hid r4.gs
    have R1 := hid r1
    have R2 := hid r2
    have R4 := hid r4
    have d0 := cell_of (i := 0) r3 rfl
    have f0 := free_of (i := 0) r3
    have dd0 := cell_of (i := 0) r0 rfl
    have ff0 := free_of (i := 0) r0
    have R5 := hid (And.intro ng (show (z3.setCell ⟨g2, 0, none⟩ (.slice (some ⟨g, 0, none⟩) (m + 1) cap)).there g (m * 20) 20 from fun j hj => ⟨by rw [World.cell?_setCell_far _ _ _ _ (Ne.symm ng)]; exact (r2 j hj).1, by rw [World.frozen?_setCell]; exact (r2 j hj).2⟩))
    clear r0 r1 r2 r3 r4 r5 ng
    clear hz h0 hk
    refine wpAnyH_ready (rs := [5]) (by kernel_rfl) (by simp) ?_
    refine AllReadyH.cons (o := ⟨some 7, Op.call { callee := Callee.builtin Builtin.append, args := #[Operand.tmp 2, Operand.tmp 6], argTypes := #[57, 57] }, 57, "tree.go:414", #[⟨0, .data⟩, ⟨4, .data⟩, ⟨2, .chain⟩, ⟨0, .phase⟩, ⟨1, .phase⟩, ⟨2, .phase⟩, ⟨3, .phase⟩, ⟨4, .phase⟩], none⟩) rfl (fun K hK => ?_) AllReadyH.nil
    refine step_append_eq rfl _ _ _ rfl rfl rfl R1.out ?_
    refine hK.out _ _ (cell_of (i := 0) HB3.out rfl) (fun hS2 => ?_)
    clear hK K hS
    revert hS2; intro hS
    try simp only [Act.put, List.setIfInBounds_toArray, List.set_cons_zero, List.set_cons_succ]
    refine wpAnyH_take (i := 6) (oi := ⟨some 8, Op.indexAddr 57 (Operand.tmp 7) (Operand.tmp 5), 0, "tree.go:414", #[⟨5, .data⟩, ⟨3, .data⟩, ⟨0, .phase⟩, ⟨1, .phase⟩, ⟨2, .phase⟩, ⟨3, .phase⟩, ⟨4, .phase⟩, ⟨5, .phase⟩, ⟨8, .gcOnly .appendInPlace⟩], none⟩) (v := ?_) rfl (by kernel_rfl) (by kernel_rfl) (by kernel_rfl) (fun _ _ _ h => h) (Or.inl ⟨by rfl, ?_⟩) hS ?_
    rotate_left 1
    · rintro wx s0
      (go_simp <;> (try with_reducible rfl))
    try simp only [Act.put, List.setIfInBounds_toArray, List.set_cons_zero, List.set_cons_succ]
    refine wpAnyH_ready (rs := [7, 8]) (by kernel_rfl) (by simp) ?_
    refine AllReadyH.cons (o := ⟨none, Op.store 79 (Operand.tmp 8) (Operand.tmp 4), 0, "tree.go:414", #[⟨6, .data⟩, ⟨2, .data⟩, ⟨5, .chain⟩, ⟨0, .phase⟩, ⟨1, .phase⟩, ⟨2, .phase⟩, ⟨3, .phase⟩, ⟨4, .phase⟩, ⟨5, .phase⟩, ⟨8, .gcOnly .appendInPlace⟩], none⟩) rfl (fun K hK => ?_) ?_
    rotate_left 1
    refine AllReadyH.cons (o := ⟨none, Op.store 57 (Operand.tmp 0) (Operand.tmp 7), 0, "tree.go:414", #[⟨5, .data⟩, ⟨5, .chain⟩, ⟨7, .textOnly .appendInPlace⟩, ⟨0, .phase⟩, ⟨1, .phase⟩, ⟨2, .phase⟩, ⟨3, .phase⟩, ⟨4, .phase⟩, ⟨5, .phase⟩, ⟨6, .textOnly .appendInPlace⟩, ⟨7, .textOnly .appendInPlace⟩], none⟩) rfl (fun K hK => ?_) AllReadyH.nil
    · go_simp
      refine hK.out _ _ (cell_setCell_far (cell_of (i := 0) HB3.out rfl) (by have := HB7.out; show g1 ≠ g2; omega) _) (fun hS2 => ?_)
      clear hK K hS
      revert hS2; intro hS
      try simp only [List.setIfInBounds_toArray, List.set_cons_zero, List.set_cons_succ]
      refine wpAnyH_ready (rs := [7]) (by kernel_rfl) (by simp) ?_
      refine AllReadyH.cons (o := ⟨none, Op.store 79 (Operand.tmp 8) (Operand.tmp 4), 0, "tree.go:414", #[⟨6, .data⟩, ⟨2, .data⟩, ⟨5, .chain⟩, ⟨0, .phase⟩, ⟨1, .phase⟩, ⟨2, .phase⟩, ⟨3, .phase⟩, ⟨4, .phase⟩, ⟨5, .phase⟩, ⟨8, .gcOnly .appendInPlace⟩], none⟩) rfl (fun K hK => ?_) AllReadyH.nil
      refine step_store_mid rfl 79 _ _ rfl g (m * 20) (o.cells (.slice ao2 n c2)).toArray rfl rfl R5.out.2 (ow_info o (.slice ao2 n c2)) (ow_one o ao2 n c2) ?_
      refine hK.out _ _ (cell_of (i := 0) HB6.out rfl) (fun hS2 => ?_)
      clear hK K hS
      revert hS2; intro hS
      try simp only [Act.put, List.setIfInBounds_toArray, List.set_cons_zero, List.set_cons_succ]
      refine wpAnyH_done (by kernel_rfl) ?_ _
      go_wp2_with fail
      go_end0
      have R6 := R4.out
      rw [← setCells_apart R5.out.1] at R6
      exact ⟨rfl, _, R6⟩
    · refine step_store_mid rfl 79 _ _ rfl g (m * 20) (o.cells (.slice ao2 n c2)).toArray rfl rfl R2.out (ow_info o (.slice ao2 n c2)) (ow_one o ao2 n c2) ?_
      refine hK.out _ _ (cell_of (i := 0) HB4.out rfl) (fun hS2 => ?_)
      clear hK K hS
      revert hS2; intro hS
      try simp only [Act.put, List.setIfInBounds_toArray, List.set_cons_zero, List.set_cons_succ]
      refine wpAnyH_ready (rs := [8]) (by kernel_rfl) (by simp) ?_
      refine AllReadyH.cons (o := ⟨none, Op.store 57 (Operand.tmp 0) (Operand.tmp 7), 0, "tree.go:414", #[⟨5, .data⟩, ⟨5, .chain⟩, ⟨7, .textOnly .appendInPlace⟩, ⟨0, .phase⟩, ⟨1, .phase⟩, ⟨2, .phase⟩, ⟨3, .phase⟩, ⟨4, .phase⟩, ⟨5, .phase⟩, ⟨6, .textOnly .appendInPlace⟩, ⟨7, .textOnly .appendInPlace⟩], none⟩) rfl (fun K hK => ?_) AllReadyH.nil
      go_simp
      refine hK.out _ _ (cell_of (i := 0) HB5.out rfl) (fun hS2 => ?_)
      clear hK K hS
      revert hS2; intro hS
      try simp only [List.setIfInBounds_toArray, List.set_cons_zero, List.set_cons_succ]
      refine wpAnyH_done (by kernel_rfl) ?_ _
      go_wp2_with fail
      go_end0
      exact ⟨rfl, _, R4.out⟩
end
end Go.Proofs.YtpcjfgihglfdgaaGreatDoor
