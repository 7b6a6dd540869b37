/- What the last two loops of islands.Parts keep: the tables, the heap, and the islands that are out. islands.Parts: its last loop, which takes the islands out in their order. -/
import Derived.Test.YtpcjfgihglfdgaaGreatDoorKCjTab
import Derived.Test.YtpcjfgihglfdgaaGreatDoorKCjOrder
import Derived.Test.YtpcjfgihglfdgaaGreatDoorKCjTake
import Derived.Deep.RegionWith
import Derived.Deep.RegionLaw
import Derived.Outline

namespace Go.Proofs.YtpcjfgihglfdgaaGreatDoor.Isl
open Go.RowKit Go.Lib

/-- so many distinct numbers below n are at most n -/
theorem pigeon : ∀ (n : Nat) (l : List Nat), l.Nodup → (∀ x ∈ l, x < n) → l.length ≤ n
  | 0, l, _, h => by
    cases l with
    | nil => simp
    | cons a t => have := h a (by simp); omega
  | n + 1, l, hd, h => by
    by_cases hm : n ∈ l
    · have h1 := pigeon n (l.erase n) (hd.erase n) (fun x hx => by
        have := (hd.mem_erase_iff).1 hx
        have := h x this.2
        omega)
      rw [List.length_erase_of_mem hm] at h1
      omega
    · have := pigeon n l hd (fun x hx => by
        have := h x hx
        have : x ≠ n := fun e => hm (e ▸ hx)
        omega)
      omega
theorem Out.nodup {g : Gr} {c : Nat → Nat} {m : Nat} {P : List Nat} (O : Out g c m P) : P.Nodup := by
  rw [List.Nodup, List.pairwise_iff_getElem]
  intro i j hi hj hij e
  have h := (O.each j P[j] (List.getElem?_eq_getElem hj)).2.1
  exact h (List.mem_take_iff_getElem.2 ⟨i, by omega, e⟩)
theorem Out.length {g : Gr} {c : Nat → Nat} {m : Nat} {P : List Nat} (O : Out g c m P) : P.length ≤ m := pigeon m P O.nodup O.lt
theorem Out.room {g : Gr} {c : Nat → Nat} {m : Nat} {P : List Nat} {p : Nat} (O : Out g c m P) (hp : p < m) (hn : p ∉ P) : P.length < m := by
  have := pigeon m (p :: P) (List.nodup_cons.2 ⟨hn, O.nodup⟩) (fun x hx => by
    simp only [List.mem_cons] at hx
    rcases hx with rfl | hx
    · exact hp
    · exact O.lt x hx)
  simp only [List.length_cons] at this
  omega
theorem heap_room {w : World} {hb h n x : Nat} {S : Nat → Prop} (H : HeapAt w hb h S) (hS : ∀ v, S v → v < n) (hx : ¬ S x) (hxn : x < n) : h < n := by
  obtain ⟨f, _, hh, _⟩ := H
  have := pigeon n (x :: (List.range h).map f) (by
    rw [List.nodup_cons]
    refine ⟨fun hm => ?_, ?_⟩
    · obtain ⟨i, hi, e⟩ := List.mem_map.1 hm
      simp only [List.mem_range] at hi
      exact hx ((hh.mem x).2 ⟨i, hi, e⟩)
    · rw [List.Nodup, List.pairwise_iff_getElem]
      intro i j hi hj hij e
      simp only [List.length_map, List.length_range] at hi hj
      simp only [List.getElem_map, List.getElem_range] at e
      have := hh.inj i j hi hj e
      omega) (fun y hy => by
    simp only [List.mem_cons, List.mem_map, List.mem_range] at hy
    rcases hy with rfl | ⟨i, hi, rfl⟩
    · exact hxn
    · exact hS _ ((hh.mem _).2 ⟨i, hi, rfl⟩))
  simp only [List.length_cons, List.length_map, List.length_range] at this
  omega
theorem HeapAt.chg {w w' : World} {hb h : Nat} {S : Nat → Prop} {F : List Nat} (H : HeapAt w hb h S) (c : Chg F w w') (hF : hb ∉ F) : HeapAt w' hb h S := by
  obtain ⟨f, h1, h2, h3⟩ := H
  exact ⟨f, c.heap h1 hF, h2, h3⟩
theorem HeapAt.alike {w : World} {hb h : Nat} {S S' : Nat → Prop} (H : HeapAt w hb h S) (e : ∀ v, S v ↔ S' v) : HeapAt w hb h S' := by
  have : S = S' := by funext v; exact propext (e v)
  rw [← this]; exact H
theorem HeapAt.block {w : World} {hb h : Nat} {S : Nat → Prop} (H : HeapAt w hb h S) : ∃ cs, w.heap[hb]? = some (.cells cs 91 (0, 0)) := by
  obtain ⟨f, h1, _⟩ := H
  exact ⟨_, h1⟩
theorem HeapAt.none {w : World} {hb h : Nat} {S : Nat → Prop} (H : HeapAt w hb h S) (h0 : h = 0) (v : Nat) : ¬ S v := by
  obtain ⟨f, _, h2, _⟩ := H
  intro hv
  obtain ⟨i, hi, _⟩ := (h2.mem v).1 hv
  omega

/-- the islands that are out, in memory -/
structure OutAt (w : World) (L : Nat) (vo : Value) (us : List Value) (outs : List (List Nat)) : Prop where
  row : w.ownsRow L 42 1 vo outs.length us
  each : ∀ (k : Nat) (l : List Nat), outs[k]? = some l → ∃ u, us[k]? = some u ∧ w.ownsRow L 3 1 u l.length (natCells l)

theorem OutAt.chg {w w' : World} {L : Nat} {vo : Value} {us : List Value} {outs : List (List Nat)} {F : List Nat} (O : OutAt w L vo us outs) (c : Chg F w w') (hF : ∀ b ∈ F, b < L) : OutAt w' L vo us outs :=
  ⟨c.owns O.row (fun b hb hm => by have := (O.row.lt b hb).1; have := hF b hm; omega), fun k l hk => by
    obtain ⟨u, h1, h2⟩ := O.each k l hk
    exact ⟨u, h1, c.owns h2 (fun b hb hm => by have := (h2.lt b hb).1; have := hF b hm; omega)⟩⟩
theorem out_start (w : World) (L : Nat) : OutAt w L (.slice none 0 0) [] [] := ⟨World.ownsRow_nil _ _ _ _, by simp⟩
theorem OutAt.view {w : World} {L : Nat} {vo : Value} {us : List Value} {outs : List (List Nat)} (O : OutAt w L vo us outs) : ∃ a c, vo = .slice a outs.length c := by
  obtain ⟨a, c, h, _⟩ := ownsRow_view O.row
  exact ⟨a, c, h⟩

/-- one more island out: its clone is made, then put behind the others -/
theorem OutAt.more {w w1 : World} {L : Nat} {vo u : Value} {us : List Value} {outs : List (List Nat)} {l : List Nat} (O : OutAt w L vo us outs) (hL : L ≤ w.heap.size) (hm : outs.length ≤ 1000000) (hu : w1.ownsRow w.heap.size 3 1 u l.length (natCells l)) (hb : Below w.heap.size w w1) :
    ∃ a c w2, (Builtin.append_ #[30, 30] 30 #[vo, .slice (some ⟨w1.heap.size, 0, none⟩) 1 1]).run Tryz.prog (w1.alloc (.cells #[u] 42)) = .ok (.slice a (outs.length + 1) c) w2 ∧
      OutAt w2 L (.slice a (outs.length + 1) c) (us ++ [u]) (outs ++ [l]) ∧ Chg (own vo) w w2 := by
  have c1 : Chg [] w w1 := Chg.of_below hb
  have O1 := O.chg c1 (by simp)
  obtain ⟨i0, hi, hz0, hz1, hz2⟩ := info_parts infoT24
  obtain ⟨ua, uc, rfl, _⟩ := ownsRow_view hu
  obtain ⟨v', w2, h1, h2, h3, _, h5⟩ := run_append_own_at (P := Tryz.prog) (w1.alloc (.cells #[.slice ua l.length uc] 42)) L 30 30 42 i0 (.slice none 0 0) 1 24 Tryz.underlying30 hi hz0 hz1 hz2 rfl (by decide) vo outs.length us (O1.row.alloc _)
    ⟨w1.heap.size, 0, none⟩ 1 1 [.slice ua l.length uc] rfl (cell_one_new2 rfl _ _) (by intro u hu; simp at hu; subst hu; rfl) (by unfold maxLen; omega) (by omega) (by simp; have := c1.size; omega)
  obtain ⟨a, c, rfl, _⟩ := ownsRow_view h2
  have ch : Chg (own vo) w1 w2 := ((Chg.refl _ w1).alloc _).grown h3 (fun k hk => .inl (by simp [own, hk]))
  have ne : ∀ (v : Value) (l : List Nat), w1.ownsRow L 3 1 v l.length (natCells l) → ∀ b, v.ownBlock = some b → b ∉ own vo := by
    intro v l hv b hb hm
    simp only [own, Option.mem_toList] at hm
    obtain ⟨x, hx⟩ := owns_cells hv hb
    obtain ⟨y, hy⟩ := owns_cells O1.row hm
    exact heap_ne hx hy (by decide) rfl
  have hu' : w1.ownsRow L 3 1 (.slice ua l.length uc) l.length (natCells l) := ownsRow_lower hu hL
  refine ⟨a, c, w2, h1, ⟨by simpa using h2, fun k l' hk => ?_⟩, (c1.mono (by simp)).trans ch (fun b hb => .inl hb)⟩
  by_cases hk2 : k < outs.length
  · rw [List.getElem?_append_left hk2] at hk
    obtain ⟨v, e1, e2⟩ := O1.each k l' hk
    exact ⟨v, by rw [List.getElem?_append_left (List.getElem?_eq_some_iff.1 e1).1]; exact e1, ch.owns e2 (ne _ _ e2)⟩
  · have hlen : us.length = outs.length := by have := O.row.1; omega
    have hkl := (List.getElem?_eq_some_iff.1 hk).1
    have hke : k = outs.length := by simp at hkl; omega
    subst hke
    rw [List.getElem?_append_right (Nat.le_refl _)] at hk
    simp at hk
    subst hk
    refine ⟨_, by rw [List.getElem?_append_right (by omega)]; simp [hlen], ch.owns hu' (ne _ _ hu')⟩

theorem add_zero_off (g i : Nat) : (⟨g, 0, none⟩ : Addr).add i = ⟨g, 0 + i, none⟩ := by
  by_cases h : i = 0
  · subst h; simp [Addr.add]
  · simp [Addr.add, h]
theorem OutAt.rows {w : World} {L : Nat} {vo : Value} {us : List Value} {outs : List (List Nat)} (O : OutAt w L vo us outs) (hs : ∀ l ∈ outs, ∀ x ∈ l, x ≤ 1000000) : RowsIn w vo (castG outs) := by
  rcases O.row.2 with ⟨rfl, h0⟩ | ⟨gb, cap, cur, rfl, _⟩
  · have : outs = [] := List.length_eq_zero_iff.1 h0
    subst this
    exact ⟨none, 0, 0, 0, rfl, by simp [castG], by simp [castG]⟩
  · have hcl := O.row.cells (g := gb) rfl
    obtain ⟨_, _, e1, e2⟩ := ownsRow_view O.row
    refine ⟨_, cap, gb, 0, by rw [castG_length], by rw [castG_length]; unfold maxLen at e2; omega, fun i l hl => ⟨rfl, ?_⟩⟩
    have hil := (List.getElem?_eq_some_iff.1 hl).1
    rw [castG_length] at hil
    obtain ⟨l', hl'⟩ : ∃ l', outs[i]? = some l' := ⟨_, List.getElem?_eq_getElem hil⟩
    have el : l = l'.map fun (x : Nat) => (x : Int) := by
      unfold castG at hl
      rw [List.getElem?_map, hl'] at hl
      simpa using hl.symm
    obtain ⟨u, h1, h2⟩ := O.each i l' hl'
    refine ⟨u, (by have := hcl i u h1; rw [add_zero_off] at this; exact this), ?_⟩
    subst el
    have hmem := List.mem_of_getElem? hl'
    rcases h2.2 with ⟨rfl, h0⟩ | ⟨ub, ucap, ucur, rfl, _⟩
    · have : l' = [] := List.length_eq_zero_iff.1 h0
      subst this
      exact ⟨none, 0, 0, 0, rfl, by simp, by simp⟩
    · have hc2 := h2.cells (g := ub) rfl
      obtain ⟨_, _, _, e3⟩ := ownsRow_view h2
      refine ⟨_, ucap, ub, 0, by rw [List.length_map], by rw [List.length_map]; unfold maxLen at e3; omega, fun j x hx => ?_⟩
      rw [List.getElem?_map, Option.map_eq_some_iff] at hx
      obtain ⟨y, hy, rfl⟩ := hx
      have hys := hs l' hmem y (List.mem_of_getElem? hy)
      exact ⟨rfl, (by have := hc2 j (.int .i64 (y : Int)) (by simp [natCells, hy]); rw [add_zero_off] at this; exact this), by omega, by omega⟩

/-- what stands while the islands go out -/
structure LastAt (w x : World) (B wb : Nat) (ev : Value) (n bw bl bo : Nat) (g : Gr) (cf : Nat → Nat) (ov : Value) (s : St) (m pbx pr nbx nr rr hb : Nat) (vs : Nat → Value) (nd : Nat → Nat) (h : Nat) (S : Nat → Prop) (L : Nat) (vo : Value) (us : List Value) (outs : List (List Nat)) : Prop where
  tab : Tab x B wb ev n bw bl bo ov s m pbx pr nbx nr rr vs (tabXs m (partOf g cf) (pairs g cf)) nd
  heap : HeapAt x hb h S
  out : OutAt x L vo us outs
  hbB : B ≤ hb
  lowL : ∀ b, (b ∈ [pbx, pr, nbx, nr, rr, wb, bw, bl, bo, hb] ∨ b ∈ own ov ∨ ∃ i, i < 2 * m ∧ b ∈ own (vs i)) → b < L
  hL : B ≤ L
  hL2 : L ≤ x.heap.size
  bel : Below B w x

section
variable {w x x' : World} {B wb n bw bl bo m pbx pr nbx nr rr hb h h' L : Nat} {ev ov vo vo' : Value} {g : Gr} {cf : Nat → Nat} {s : St} {vs : Nat → Value} {nd : Nat → Nat} {S S' : Nat → Prop} {us us' : List Value} {outs outs' : List (List Nat)}

theorem LastAt.hbfar (A : LastAt w x B wb ev n bw bl bo g cf ov s m pbx pr nbx nr rr hb vs nd h S L vo us outs) : hb ∉ [pbx, pr, nbx, nr, rr, wb, bw, bl, bo] ∧ hb ∉ own ov ∧ ∀ i, i < 2 * m → hb ∉ own (vs i) := by
  obtain ⟨cs, hcs⟩ := A.heap.block
  have T := A.tab
  refine ⟨?_, fun hm => ?_, fun i hi hm => ?_⟩
  · simp only [List.mem_cons, List.not_mem_nil, or_false, not_or]
    exact ⟨heap_ne hcs T.hpb (by decide), heap_ne hcs T.rp (by decide), heap_ne hcs T.hnb (by decide), heap_ne hcs T.rn (by decide), heap_ne hcs T.rq (by decide), heap_ne hcs T.wat.hd (by decide), heap_ne hcs T.wat.rw (by decide), heap_ne hcs T.wat.rl (by decide), heap_ne hcs T.wat.ro (by decide)⟩
  · simp only [own, Option.mem_toList] at hm
    obtain ⟨y, hy⟩ := owns_cells T.wat.op hm
    exact heap_ne hcs hy (by decide) rfl
  · simp only [own, Option.mem_toList] at hm
    obtain ⟨y, hy⟩ := owns_cells (T.rows.row i hi) hm
    exact heap_ne hcs hy (by decide) rfl

/-- a step that writes blocks of its own, all but the tables' -/
theorem LastAt.keep {F : List Nat} (A : LastAt w x B wb ev n bw bl bo g cf ov s m pbx pr nbx nr rr hb vs nd h S L vo us outs) (c : Chg F x x') (hF : ∀ b ∈ F, L ≤ b ∨ b = hb) (H : HeapAt x' hb h' S') (O : OutAt x' L vo' us' outs') :
    LastAt w x' B wb ev n bw bl bo g cf ov s m pbx pr nbx nr rr hb vs nd h' S' L vo' us' outs' := by
  have far := A.hbfar
  have hF2 : ∀ b ∈ F, ∀ y, (y ∈ [pbx, pr, nbx, nr, rr, wb, bw, bl, bo, hb] ∨ y ∈ own ov ∨ ∃ i, i < 2 * m ∧ y ∈ own (vs i)) → y = b → b = hb := by
    intro b hb' y hy e
    rcases hF b hb' with h1 | h1
    · have := A.lowL y hy; omega
    · exact h1
  have nine : ∀ b ∈ F, b ∉ [pbx, pr, nbx, nr, rr, wb, bw, bl, bo] := fun b hb' hm => by
    have e := hF2 b hb' b (.inl (List.mem_append_left [hb] hm)) rfl
    subst e
    exact far.1 hm
  have nov : ∀ b ∈ F, b ∉ own ov := fun b hb' hm => by
    have e := hF2 b hb' b (.inr (.inl hm)) rfl
    subst e
    exact far.2.1 hm
  have nvs : ∀ b ∈ F, ∀ i, i < 2 * m → b ∉ own (vs i) := fun b hb' i hi hm => by
    have e := hF2 b hb' b (.inr (.inr ⟨i, hi, hm⟩)) rfl
    subst e
    exact far.2.2 i hi hm
  refine ⟨A.tab.keep c (fun b hb' => ⟨nine b hb', nov b hb'⟩) (A.tab.rows.chg c (fun b hb' => .inr (fun i hi e => nvs b hb' i hi (by simp [own, e])))) (A.tab.rp.chg c (fun hm => nine _ hm (by simp))) (A.tab.rq.chg c (fun hm => nine _ hm (by simp))),
    H, O, A.hbB, A.lowL, A.hL, Nat.le_trans A.hL2 c.size, A.bel.trans (c.below (fun b hb' => ?_) (Nat.le_trans A.hL A.hL2))⟩
  rcases hF b hb' with h1 | h1
  · have := A.hL; omega
  · rw [h1]; exact A.hbB
theorem LastAt.heapStep (A : LastAt w x B wb ev n bw bl bo g cf ov s m pbx pr nbx nr rr hb vs nd h S L vo us outs) (c : Chg [hb] x x') (H : HeapAt x' hb h' S') : LastAt w x' B wb ev n bw bl bo g cf ov s m pbx pr nbx nr rr hb vs nd h' S' L vo us outs :=
  A.keep c (by simp) H (A.out.chg c (fun b hb' => by
    simp only [List.mem_singleton] at hb'
    subst hb'
    exact A.lowL _ (.inl (by simp))))
theorem LastAt.need (A : LastAt w x B wb ev n bw bl bo g cf ov s m pbx pr nbx nr rr hb vs nd h S L vo us outs) (k v : Nat) : LastAt w (x.setCell ⟨nr, k, none⟩ (.int .i64 (v : Int))) B wb ev n bw bl bo g cf ov s m pbx pr nbx nr rr hb vs (upd nd k v) h S L vo us outs := by
  have c : Chg [nr] x (x.setCell ⟨nr, k, none⟩ (.int .i64 (v : Int))) := (Chg.refl _ x).setCell (by simp) _
  have hne : hb ≠ nr := fun e => A.hbfar.1 (by simp [e])
  refine ⟨A.tab.need k v, A.heap.chg c (by simpa using hne), A.out.chg c (fun b hb' => ?_), A.hbB, A.lowL, A.hL, by simpa using A.hL2, A.bel.trans (c.below (fun b hb' => ?_) (Nat.le_trans A.hL A.hL2))⟩
  · simp only [List.mem_singleton] at hb'
    subst hb'
    exact A.lowL _ (.inl (by simp))
  · simp only [List.mem_singleton] at hb'
    subst hb'
    exact A.tab.b3
theorem LastAt.outStep {l : List Nat} {w1 : World} {u : Value} (A : LastAt w x B wb ev n bw bl bo g cf ov s m pbx pr nbx nr rr hb vs nd h S L vo us outs) (hm : outs.length ≤ 1000000) (hu : w1.ownsRow x.heap.size 3 1 u l.length (natCells l)) (hb1 : Below x.heap.size x w1) :
    ∃ a c w2, (Builtin.append_ #[30, 30] 30 #[vo, .slice (some ⟨w1.heap.size, 0, none⟩) 1 1]).run Tryz.prog (w1.alloc (.cells #[u] 42)) = .ok (.slice a (outs.length + 1) c) w2 ∧
      LastAt w w2 B wb ev n bw bl bo g cf ov s m pbx pr nbx nr rr hb vs nd h S L (.slice a (outs.length + 1) c) (us ++ [u]) (outs ++ [l]) := by
  obtain ⟨a, c, w2, h1, h2, h3⟩ := A.out.more A.hL2 hm hu hb1
  have hown : ∀ b ∈ own vo, L ≤ b := fun b hb' => by
    simp only [own, Option.mem_toList] at hb'
    exact (A.out.row.lt b hb').1
  refine ⟨a, c, w2, h1, A.keep h3 (fun b hb' => .inl (hown b hb')) (A.heap.chg h3 (fun hm' => ?_)) h2⟩
  have := hown hb hm'
  have := A.lowL hb (.inl (by simp))
  omega

/-- the first nodes of the islands that wait for nothing -/
def SetOf (g : Gr) (cf : Nat → Nat) (m : Nat) (P : List Nat) (nd : Nat → Nat) (v : Nat) : Prop := ∃ q, q < m ∧ q ∉ P ∧ nd q = 0 ∧ v = fstOf g cf q

theorem heap_count {w : World} {hb h n : Nat} {S : Nat → Prop} (H : HeapAt w hb h S) (hS : ∀ v, S v → v < n) : h ≤ n := by
  obtain ⟨f, _, hh, _⟩ := H
  have := pigeon n ((List.range h).map f) (by
    rw [List.Nodup, List.pairwise_iff_getElem]
    intro i j hi hj hij e
    simp only [List.length_map, List.length_range] at hi hj
    simp only [List.getElem_map, List.getElem_range] at e
    have := hh.inj i j hi hj e
    omega) (fun y hy => by
    simp only [List.mem_map, List.mem_range] at hy
    obtain ⟨i, hi, rfl⟩ := hy
    exact hS _ ((hh.mem _).2 ⟨i, hi, rfl⟩))
  simpa using this

def TakeLast (w : World) (B wb : Nat) (ev : Value) (n bw bl bo : Nat) (g : Gr) (cf : Nat → Nat) (ov : Value) (s : St) (m pbx pr nbx nr rr hb : Nat) (vs : Nat → Value) (nd : Nat → Nat) (h : Nat) (P : List Nat) (L : Nat) (vo : Value) (us : List Value) (outs : List (List Nat)) (e : Ending) (w2 : World) : Prop :=
  ∃ q x0 : Nat, e = .returned (.int .i64 (x0 : Int)) ∧ x0 < n ∧ q < m ∧ q ∉ P ∧ nd q = 0 ∧ (∀ q', q' < m → q' ∉ P → nd q' = 0 → fstOf g cf q ≤ fstOf g cf q') ∧
    LastAt w w2 B wb ev n bw bl bo g cf ov s m pbx pr nbx nr rr hb vs nd h (SetOf g cf m (P ++ [q]) nd) L vo us outs ∧
    w2.cell? ⟨wb, 4, none⟩ = some (.slice (some ⟨bo, 0, none⟩) n n) ∧ w2.cell? ⟨bo, x0, none⟩ = some (.int .i64 (q : Int))

theorem take_last {P : List Nat} {y : World} (A : LastAt w x B wb ev n bw bl bo g cf ov s m pbx pr nbx nr rr hb vs nd (h + 1) (SetOf g cf m P nd) L vo us outs) (c : Chg [] x y) (N : Num g cf m) (hn : n = g.length) (hn2 : n ≤ 2000)
    (hcf : ∀ i, i < n → islI s.isl i = (cf i : Int)) : Calls Tryz.prog 26 #[.pointer (some ⟨hb, 0, none⟩)] y (TakeLast w B wb ev n bw bl bo g cf ov s m pbx pr nbx nr rr hb vs nd h P L vo us outs) := by
  have A' := A.heapStep (c.mono (by simp)) (A.heap.chg c (by simp))
  have hS : ∀ v, SetOf g cf m P nd v → v < n := by
    rintro v ⟨q, hq, _, _, rfl⟩
    have := (N.fst hq).1
    omega
  have hc := heap_count A.heap hS
  refine (take_any A'.heap (by omega) (fun v hv => by have := hS v hv; omega)).mono ?_
  rintro e w2 ⟨x0, rfl, hx0, hle, hh, hch⟩
  obtain ⟨q, hq, hqP, hnd, rfl⟩ := hx0
  have h1 := (N.fst hq)
  have A2 := A'.heapStep hch (hh.alike (S' := SetOf g cf m (P ++ [q]) nd) (fun v => by
    constructor
    · rintro ⟨⟨q', a1, a2, a3, rfl⟩, hne⟩
      refine ⟨q', a1, ?_, a3, rfl⟩
      simp only [List.mem_append, List.mem_singleton, not_or]
      exact ⟨a2, fun e => hne (by rw [e])⟩
    · rintro ⟨q', a1, a2, a3, rfl⟩
      simp only [List.mem_append, List.mem_singleton, not_or] at a2
      exact ⟨⟨q', a1, a2.1, a3, rfl⟩, fun e => a2.2 (N.fst_inj a1 hq e)⟩))
  refine ⟨q, _, rfl, by omega, hq, hqP, hnd, fun q' a1 a2 a3 => hle _ ⟨q', a1, a2, a3, rfl⟩, A2, cell_of (i := 4) A2.tab.wat.hd rfl, ?_⟩
  rw [A2.tab.wat.ro.get (by omega), hcf _ (by omega), h1.2.1]

theorem may_last {p : Nat} (A : LastAt w x B wb ev n bw bl bo g cf ov s m pbx pr nbx nr rr hb vs nd h S L vo us outs) (N : Num g cf m) (hn : n = g.length) (hn2 : n ≤ 2000) (hm : m ≤ 2000) (hp : p < m)
    (hS : ∀ v, S v → v < n) (hnew : nd p = 0 → ¬ S (fstOf g cf p)) (hnd : nd p ≤ 100000000) :
    Calls Tryz.prog 24 #[.int .i64 (p : Int), .pointer (some ⟨nbx, 0, none⟩), .pointer (some ⟨hb, 0, none⟩), .pointer (some ⟨pbx, 0, none⟩)] x
      (fun e x' => e = .returned (.tuple #[]) ∧ ∃ h', LastAt w x' B wb ev n bw bl bo g cf ov s m pbx pr nbx nr rr hb vs nd h' (fun v => (nd p = 0 ∧ v = fstOf g cf p) ∨ S v) L vo us outs) := by
  have T := A.tab
  obtain ⟨f1, f2, f3, _⟩ := N.fst hp
  have hrow := T.rows.row p (by omega)
  rw [tabXs_part hp] at hrow
  obtain ⟨ln, hln⟩ : ∃ ln, (partOf g cf p).length = ln + 1 := by
    have := (List.getElem?_eq_some_iff.1 f3).1
    exact ⟨(partOf g cf p).length - 1, by omega⟩
  have hcell : ∃ b c, vs p = .slice (some ⟨b, 0, none⟩) (ln + 1) c ∧ x.cell? ⟨b, 0, none⟩ = some (.int .i64 (fstOf g cf p : Int)) := by
    rcases hrow.2 with ⟨_, h0⟩ | ⟨b, cap, cur, hv, _⟩
    · omega
    · refine ⟨b, cap, by rw [hv, hln], ?_⟩
      have := hrow.cells (g := b) (by rw [hv]; rfl) 0 (.int .i64 (fstOf g cf p : Int)) (by simp [natCells, f3])
      rw [add_zero_off] at this
      exact this
  obtain ⟨b, c, hv, hx⟩ := hcell
  have hr : nd p = 0 → h < 2000 := fun h0 => by
    have := heap_room A.heap hS (hnew h0) (by omega)
    omega
  · refine (may_any hp (by omega) (cell_of (i := 0) T.hnb rfl) (cell_of (i := 0) T.hpb rfl) T.rn T.rp hv hx hnd A.heap hnew hr (by omega) (fun v hv => by have := hS v hv; omega)).mono ?_
    rintro e x' ⟨rfl, c1, c2, c3⟩
    refine ⟨rfl, ?_⟩
    by_cases h0 : nd p = 0
    · exact ⟨_, A.heapStep c1 ((c2 h0).alike (fun v => by simp [h0]))⟩
    · rw [c3 h0]
      exact ⟨_, A.heapStep (Chg.refl _ _) (A.heap.alike (fun v => by simp [h0]))⟩
end

end Go.Proofs.YtpcjfgihglfdgaaGreatDoor.Isl

namespace Go.Proofs.YtpcjfgihglfdgaaGreatDoor.Isl
open Go.RowKit Go.Lib

def sndSeq : Code → Code
  | .seq _ b => b
  | c => c
/-- what stands behind the walker's making -/
noncomputable def rest13 : Code := sndSeq (sndSeq (sndSeq (sndSeq (Tryz.f7.body.getD .skip))))
/-- what stands behind the loop over the nodes, and the three tables' making -/
noncomputable def rest13t : Code := sndSeq (sndSeq (sndSeq (sndSeq rest13)))
/-- what stands behind the loop that fills the tables -/
noncomputable def rest13h : Code := sndSeq rest13t
/-- what stands behind the loop that asks each island -/
noncomputable def rest13c : Code := sndSeq (sndSeq (sndSeq rest13h))

def PartsPost (w : World) (g : Gr) (e : Ending) (w' : World) : Prop :=
  ∃ v out, e = .returned (.tuple #[v, .int .i64 0]) ∧ IsParts g out ∧ RowsIn w' v (castG out) ∧ Below w.heap.size w w'


def lenOfV : Value → Nat
  | .slice _ n _ => n
  | _ => 0

def LastRel (w : World) (B wb : Nat) (ev : Value) (n bw bl bo : Nat) (g : Gr) (cf : Nat → Nat) (ov : Value) (s : St) (m pbx pr nbx nr rr hb : Nat) (vs : Nat → Value) (L : Nat) (vo : Value) (x : World) : Prop :=
  ∃ P us h, LastAt w x B wb ev n bw bl bo g cf ov s m pbx pr nbx nr rr hb vs (wants (pairs g cf) P) h (SetOf g cf m P (wants (pairs g cf) P)) L vo us (P.map (partOf g cf)) ∧ Out g cf m P
def InnerRel (w : World) (B wb : Nat) (ev : Value) (n bw bl bo : Nat) (g : Gr) (cf : Nat → Nat) (ov : Value) (s : St) (m pbx pr nbx nr rr hb : Nat) (vs : Nat → Value) (L : Nat) (vo : Value) (us : List Value) (P : List Nat) (p : Nat) (jv : Value) (x : World) : Prop :=
  ∃ (j h : Nat) (nd : Nat → Nat), jv = .int .i64 (j : Int) ∧ j ≤ (readers (pairs g cf) p).length ∧ LastAt w x B wb ev n bw bl bo g cf ov s m pbx pr nbx nr rr hb vs nd h (SetOf g cf m (P ++ [p]) nd) L vo us ((P ++ [p]).map (partOf g cf)) ∧
    ∀ q, nd q = wants (pairs g cf) (P ++ [p]) q + ((readers (pairs g cf) p).drop j).count q

set_option maxRecDepth 20000 in
set_option maxHeartbeats 4000000 in
theorem parts_last {w x : World} {B wb n bw bl bo : Nat} {ev ov : Value} {g : Gr} {cf : Nat → Nat} {s : St} {m pbx pr nbx nr rr hb : Nat} {vs : Nat → Value} {h L : Nat} (v0 v1 v2 v3 v4 v6 v10 v11 v12 v13 v14 v17 v18 v19 v20 v21 v22 v23 v24 v25 v26 v27 v28 v29 v30 v31 v32 v33 v34 v35 v36 v37 v38 v39 v40 v41 v42 v43 v44 v45 v46 v47 v48 v49 v50 v51 v52 v53 v54 v55 v56 v57 v58 v59 v60 v61 v62 v63 v64 v65 v66 v67 v68 v69 v70 v71 v72 v73 v74 v75 v76 v77 v78 v79 v80 v81 v82 v83 v84 v85 v86 v87 v88 v89 v90 v91 v92 v93 v94 v95 v96 v97 v98 v99 v100 v101 v102 v103 v104 v105 v106 v107 v108 v109 v110 v111 v112 v113 v114 v115 v116 v117 v118 v119 v120 v121 v122 v123 v124 v125 v126 v127 v128 v129 v130 v131 v132 v133 v134 v135 v136 v137 v138 v139 v140 v141 v142 v143 v144 v145 v146 v147 v148 v149 v150 v151 v152 v153 v154 v155 v156 v157 v158 v159 v160 v161 v162 v163 v164 v165 v166 v167 v168 v169 v170 v171 v172 v173 v174 v175 v176 v177 v178 v179 v180 v181 v182 v183 v184 : Value)
    (hn : n = g.length) (hn2 : n ≤ 2000) (hm : m ≤ 2000) (hB : w.heap.size = B) (R : RightG g) (hcf : ∀ i, i < n → islI s.isl i = (cf i : Int)) (N : Num g cf m) (hM : (pairs g cf).length ≤ 1000000)
    (A : LastAt w x B wb ev n bw bl bo g cf ov s m pbx pr nbx nr rr hb vs (wants (pairs g cf) []) h (SetOf g cf m [] (wants (pairs g cf) [])) L (.slice none 0 0) [] []) :
    Code.wp Tryz.prog rest13c (bodyPost Tryz.prog Tryz.f7 (PartsPost w g)) { tmps := #[v0, v1, v2, v3, v4, .pointer (some ⟨wb, 0, none⟩), v6, .pointer (some ⟨pbx, 0, none⟩), .pointer (some ⟨nbx, 0, none⟩), .slice (some ⟨rr, 0, none⟩) m m, v10, v11, v12, v13, v14, .pointer (some ⟨hb, 0, none⟩), .func (.func 24) #[] #[.pointer (some ⟨nbx, 0, none⟩), .pointer (some ⟨hb, 0, none⟩), .pointer (some ⟨pbx, 0, none⟩)], v17, v18, v19, v20, v21, v22, v23, v24, v25, v26, v27, v28, v29, v30, v31, v32, v33, v34, v35, v36, v37, v38, v39, v40, v41, v42, v43, v44, v45, v46, v47, v48, v49, v50, v51, v52, v53, v54, v55, v56, v57, v58, v59, v60, v61, v62, v63, v64, v65, v66, v67, v68, v69, v70, v71, v72, v73, v74, v75, v76, v77, v78, v79, v80, v81, v82, v83, v84, v85, v86, v87, v88, v89, v90, v91, v92, v93, v94, v95, v96, v97, v98, v99, v100, v101, v102, v103, v104, v105, v106, v107, v108, v109, v110, v111, v112, v113, v114, v115, v116, v117, v118, v119, v120, v121, v122, v123, v124, v125, v126, v127, v128, v129, v130, v131, v132, v133, v134, v135, v136, v137, v138, v139, v140, v141, v142, v143, v144, v145, v146, v147, v148, v149, v150, v151, v152, v153, v154, v155, v156, v157, v158, v159, v160, v161, v162, v163, v164, v165, v166, v167, v168, v169, v170, v171, v172, v173, v174, v175, v176, v177, v178, v179, v180, v181, v182, v183, v184], defers := [] } x := by
  have HN := hid hn
  have HR := hid R
  have HA := hid A
  have HB := hid hB
  have HNUM := hid N
  have HCF := hid hcf
  have HM := hid hM
  clear hn R A hB N hcf hM
  simp only [rest13c, rest13h, rest13t, rest13, sndSeq, Tryz.f7, Option.getD_some]
  go_wp2_with fail
  go_loopw [18] (fun vo y => LastRel w B wb ev n bw bl bo g cf ov s m pbx pr nbx nr rr hb vs L vo y) (fun vo _ => m - lenOfV vo)
  case atStart => exact ⟨[], [], h, HA.out, out_nil _ _ _⟩
  case round =>
    clear HA
    obtain ⟨P, us, h, A, O⟩ := hrel
    obtain ⟨va, vc, rfl⟩ := A.out.view
    obtain ⟨lp, hlp⟩ : ∃ lp, lp = (P.map (partOf g cf)).length := ⟨_, rfl⟩
    rw [← hlp] at A ⊢
    have hlpm : lp ≤ m := by have := O.length; rw [hlp, List.length_map]; exact this
    have hlp2 : lp ≤ 2000 := by omega
    have HLP := hid hlp
    have HO := hid O
    have HA := hid A
    have HH := hid A.heap
    obtain ⟨f, hf, hh, ho⟩ := A.heap
    have cn := hf.num
    clear hlp O
    by_cases h0 : h = 0
    · have HP := hid (fun v => A.heap.none h0 v)
      subst h0
      clear A hf hh ho
      go_wp2_with fail
      go_ret2
      refine ⟨_, _, rfl, HO.out.parts HNUM.out HR.out (fun q hq hqP h0 => HP.out _ ⟨q, hq, hqP, h0, rfl⟩), HA.out.out.rows ?_, ?_⟩
      · intro l hl x hx
        obtain ⟨p, hp, rfl⟩ := List.mem_map.1 hl
        have := (mem_part.1 hx).1
        have := HN.out
        omega
      · have := HA.out.bel
        rw [← HB.out] at this
        exact this
    · obtain ⟨h', rfl⟩ : ∃ h', h = h' + 1 := ⟨h - 1, by omega⟩
      have HTK := hid (fun (y : World) (c : Chg [] wr y) => take_last A c HNUM.out HN.out hn2 (fun i hi => HCF.out i hi))
      have c4 := cell_of (i := 4) A.tab.wat.hd rfl
      clear A hf hh ho
      go_wp2_with fail
      go_region_with (first | (go_at_call 26; refine (HTK.out _ ?_).mono ?_; exact ((Chg.refl [] _).drew); rintro e w2 ⟨q, x0, rfl, hx0, hq, hqP, hnd0, hle, A2, d4, dq⟩))
      all_goals (
        clear c4 cn d4 dq HTK HH
        have pb1 := cell_of (i := 0) A2.tab.hpb rfl
        have rp1 := A2.tab.rp.get hq
        have hrow := A2.tab.rows.row q (by omega)
        rw [tabXs_part hq] at hrow
        have hf := HNUM.out.fst hq
        have hplen : (partOf g cf q).length ≤ 1000000 := by
          have := partK_length cf g.length q
          rw [partK_all] at this
          have := HN.out
          omega
        have HCL := hid (clone_any hrow (List.length_pos_of_mem (List.mem_of_getElem? hf.2.2.1)) hplen)
        have HA2 := hid A2
        have HLE := hid hle
        clear hrow hf hplen A2 hle
        go_wp2_with fail
        refine HCL.out.mono ?_
        rintro e w3 ⟨u, rfl, hu, hb3⟩
        obtain ⟨ua, uc, rfl, _⟩ := ownsRow_view hu
        obtain ⟨a2, c2, w4, happ, A4⟩ := HA2.out.outStep (by have := HLP.out; omega) hu hb3
        rw [← HLP.out] at happ A4
        have rq4 := A4.tab.rq.get hq
        have hrr := A4.tab.rows.row (m + q) (by omega)
        rw [tabXs_read] at hrr
        obtain ⟨ra, rc, hrv, hrl⟩ := ownsRow_view hrr
        obtain ⟨rn, hrn⟩ : ∃ rn, rn = (readers (pairs g cf) q).length := ⟨_, rfl⟩
        have hrn2 : rn ≤ 1000000 := by
          have := readers_le (pairs g cf) q
          have := HM.out
          omega
        rw [← hrn] at hrv
        rw [hrv] at rq4
        have HRV := hid hrv
        have HRN := hid hrn
        have HA4 := hid A4
        clear hu hb3 pb1 rp1 HCL hrr hrv hrl hrn A4
        go_wp2_with (at_builtin; refine wpList_append_run rfl (.tmp 157) (.tmp 163) 30 rfl _ _ rfl rfl happ ?_)
        clear happ rq4
        go_loopw [170] (fun jv y => InnerRel w B wb ev n bw bl bo g cf ov s m pbx pr nbx nr rr hb vs L (.slice a2 (lp + 1) c2) (us ++ [.slice ua (partOf g cf q).length uc]) P q jv y) (fun jv _ => rn - (intOf jv).toNat)
        case atStart =>
          refine ⟨0, h', wants (pairs g cf) P, rfl, by omega, ?_, fun q' => ?_⟩
          · rw [List.map_append]
            exact HA4.out
          · rw [List.drop_zero]
            exact wants_split _ _ _ _ hqP
        case round =>
          obtain ⟨j, hc, nd, rfl, hj, A5, hnd⟩ := hrel
          have HA5 := hid A5
          have HND := hid hnd
          rw [← HRN.out] at hj
          by_cases hjn : j < rn
          · obtain ⟨r, hr⟩ : ∃ r, (readers (pairs g cf) q)[j]? = some r := ⟨_, List.getElem?_eq_getElem (HRN.out ▸ hjn)⟩
            have hrm : (r, q) ∈ pairs g cf := by
              have := List.mem_of_getElem? hr
              unfold readers at this
              obtain ⟨⟨a, b⟩, h1, rfl⟩ := List.mem_map.1 this
              simp only [List.mem_filter, beq_iff_eq] at h1
              obtain ⟨h1, rfl⟩ := h1
              exact h1
            obtain ⟨k1, k2, he1, hk1, hk2, hne⟩ := mem_pairs.1 hrm
            have hrlt : r < m := by rw [← hk1]; exact HNUM.out.lt k1 (edge_lt he1)
            have hrP : r ∉ P ++ [q] := by
              simp only [List.mem_append, List.mem_singleton, not_or]
              exact ⟨fun hm' => hqP (HO.out.closed r hm' q hrm), hne⟩
            obtain ⟨y, hy⟩ : ∃ y, nd r = y + 1 := by
              have h1 := hnd r
              have h2 : (readers (pairs g cf) q).drop j = r :: (readers (pairs g cf) q).drop (j + 1) := by
                rw [← List.getElem_cons_drop (HRN.out ▸ hjn)]
                rw [List.getElem?_eq_getElem (HRN.out ▸ hjn)] at hr
                rw [Option.some.inj hr]
              rw [h2, List.count_cons_self] at h1
              exact ⟨nd r - 1, by omega⟩
            have hy2 : y ≤ 1000000 := by
              have h1 := hnd r
              have := wants_split (pairs g cf) P q r hqP
              have := wants_le (pairs g cf) P r
              have : ((readers (pairs g cf) q).drop j).count r ≤ (readers (pairs g cf) q).count r := (List.drop_sublist j _).count_le r
              have := HM.out
              omega
            have hrr := A5.tab.rows.row (m + q) (by omega)
            rw [tabXs_read, HRV.out] at hrr
            obtain ⟨gb, rfl⟩ : ∃ gb, ra = some ⟨gb, 0, none⟩ := by
              rcases hrr.2 with ⟨_, h0⟩ | ⟨gb, cap, cur, hv, _⟩
              · rw [← HRN.out] at h0; omega
              · injection hv with hv _ _
                exact ⟨gb, hv⟩
            have rc1 := hrr.cells (g := gb) rfl j (.int .i64 (r : Int)) (by simp [natCells, hr])
            rw [add_zero_off, Nat.zero_add] at rc1
            have nb1 := cell_of (i := 0) A5.tab.hnb rfl
            have nr1 := A5.tab.rn.get hrlt
            have nf1 := A5.tab.rn.free (i := r)
            have ny : natI nd r = (y : Int) + 1 := by simp [natI, hy]
            rw [ny] at nr1
            have A6 := A5.need r y
            have hry : upd nd r y r = y := upd_same _ _ _
            have hML := hid (may_last A6 HNUM.out HN.out hn2 hm hrlt (by
              rintro v ⟨q', hq', _, _, rfl⟩
              have := (HNUM.out.fst hq').1
              have := HN.out
              omega) (by
              rintro _ ⟨q', hq', _, h3, h4⟩
              have := HNUM.out.fst_inj hrlt hq' h4
              subst this
              omega) (by rw [hry]; omega))
            have hdrop : (readers (pairs g cf) q).drop j = r :: (readers (pairs g cf) q).drop (j + 1) := by
              rw [← List.getElem_cons_drop (HRN.out ▸ hjn)]
              rw [List.getElem?_eq_getElem (HRN.out ▸ hjn)] at hr
              rw [Option.some.inj hr]
            have fin := hid (fun (x' : World) (h2 : Nat) (A7 : LastAt w x' B wb ev n bw bl bo g cf ov s m pbx pr nbx nr rr hb vs (upd nd r y) h2 (fun v => (upd nd r y r = 0 ∧ v = fstOf g cf r) ∨ SetOf g cf m (P ++ [q]) nd v) L (.slice a2 (lp + 1) c2) (us ++ [.slice ua (partOf g cf q).length uc]) ((P ++ [q]).map (partOf g cf))) =>
              (show InnerRel w B wb ev n bw bl bo g cf ov s m pbx pr nbx nr rr hb vs L (.slice a2 (lp + 1) c2) (us ++ [.slice ua (partOf g cf q).length uc]) P q (.int .i64 ((j : Int) + 1)) x' from by
                refine ⟨j + 1, h2, upd nd r y, by simp, by rw [← HRN.out]; omega, ?_, fun q' => ?_⟩
                · have := A7.heapStep (Chg.refl _ _) (A7.heap.alike (S' := SetOf g cf m (P ++ [q]) (upd nd r y)) (fun v => by
                    constructor
                    · rintro (⟨h1, rfl⟩ | ⟨q', b1, b2, b3, rfl⟩)
                      · exact ⟨r, hrlt, hrP, h1, rfl⟩
                      · refine ⟨q', b1, b2, ?_, rfl⟩
                        rw [upd_far _ _ (fun e => by subst e; omega)]
                        exact b3
                    · rintro ⟨q', b1, b2, b3, rfl⟩
                      by_cases e : q' = r
                      · subst e
                        exact .inl ⟨b3, rfl⟩
                      · rw [upd_far _ _ e] at b3
                        exact .inr ⟨q', b1, b2, b3, rfl⟩))
                  exact this
                · have h1 := HND.out q'
                  rw [hdrop] at h1
                  by_cases e : q' = r
                  · subst e
                    rw [List.count_cons_self] at h1
                    rw [upd_same]
                    omega
                  · rw [List.count_cons_of_ne (fun e2 => e e2.symm)] at h1
                    rw [upd_far _ _ e]
                    exact h1))
            clear A5 A6 hnd hr hrm he1 hk1 hk2 hne hrP hy hrr ny hry hdrop
            go_wp2_with fail
            refine hML.out.mono ?_
            rintro e x' ⟨rfl, h2, A7⟩
            have RR := hid (fin.out x' h2 A7)
            clear A7 fin hML
            go_wp2_with fail
            go_roundw
            case rel => exact RR.out
            case measure => simp [intOf]; omega
          · have RR := hid (show LastRel w B wb ev n bw bl bo g cf ov s m pbx pr nbx nr rr hb vs L (.slice a2 (lp + 1) c2) wr from by
              refine ⟨P ++ [q], us ++ [.slice ua (partOf g cf q).length uc], hc, ?_, HO.out.more hq hqP hnd0 HLE.out⟩
              have e : nd = wants (pairs g cf) (P ++ [q]) := by
                funext q'
                rw [HND.out q', List.drop_eq_nil_of_le (by rw [← HRN.out]; omega)]
                simp
              rw [e] at A5
              exact A5)
            have hroom : lp < m := by
              have := HO.out.room hq hqP
              rw [HLP.out, List.length_map]
              exact this
            clear A5 hnd
            go_wp2_with fail
            go_roundw
            case rel => exact RR.out
            case measure => simp [lenOfV]; omega)

end Go.Proofs.YtpcjfgihglfdgaaGreatDoor.Isl
