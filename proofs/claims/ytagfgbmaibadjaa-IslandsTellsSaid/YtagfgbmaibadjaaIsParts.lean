/- Contract of islands.Parts. -/
import Derived.Test.YtagfgbmaibadjaaIsTail
import Derived.Deep.RegionWith
namespace Go.Proofs.Ytagfgbmaibadjaa
open Go.RowKit Go.Lib

theorem cell_new0 (W : World) (b : Nat) (hb : W.heap.size = b) (x : Value) (t : TypeId) : (W.alloc (.cells #[x] t)).drew.cell? ⟨b, 0, none⟩ = some x := by
  subst hb
  exact cell_of (w := W.alloc (.cells #[x] t)) (heap_alloc_new W _) rfl
theorem cell_new1 (W : World) (b : Nat) (hb : W.heap.size = b) (x : Value) (t : TypeId) (o : Obj) : ((W.alloc (.cells #[x] t)).alloc o).drew.cell? ⟨b, 0, none⟩ = some x := by
  subst hb
  exact cell_of (w := (W.alloc (.cells #[x] t)).alloc o) (heap_alloc_keep (heap_alloc_new W _) _) rfl
theorem cell_new2 (W : World) (b : Nat) (hb : W.heap.size = b) (x : Value) (t : TypeId) (o o2 : Obj) : (((W.alloc (.cells #[x] t)).alloc o).alloc o2).drew.cell? ⟨b, 0, none⟩ = some x := by
  subst hb
  exact cell_of (w := ((W.alloc (.cells #[x] t)).alloc o).alloc o2) (heap_alloc_keep (heap_alloc_keep (heap_alloc_new W _) _) _) rfl

theorem heap_new_at (W : World) (b : Nat) (hb : W.heap.size = b) (o : Obj) : (W.alloc o).heap[b]? = some o := by
  subst hb
  exact heap_alloc_new W o
theorem heap_drew {W : World} {b : Nat} {o : Obj} (h : W.heap[b]? = some o) : W.drew.heap[b]? = some o := h
theorem heap_bel {X Y : World} {b : Nat} {o : Obj} (hb : Below X.heap.size X Y) (h : X.heap[b]? = some o) : Y.heap[b]? = some o := (hb.block b (heap_lt h)).trans h
theorem rowf_keep {W : World} {b n : Nat} {f : Nat → Int} (h : RowF W b n f) (o : Obj) : RowF (W.alloc o) b n f := heap_alloc_keep h o
theorem wat_start {y : World} {B wb n bw bl bo : Nat} {ev : Value} (hd : y.heap[wb]? = some (.cells #[ev, .slice (some ⟨bw, 0, none⟩) n n, .slice (some ⟨bl, 0, none⟩) n n, .slice none 0 0, .slice (some ⟨bo, 0, none⟩) n n, .int .i64 0, .int .i64 0] 46 (0, 0)))
    (h1 : y.heap[bw]? = some (.cells (Array.replicate n (.int .i64 0)) 3 (0, 0))) (h2 : y.heap[bl]? = some (.cells (Array.replicate n (.int .i64 0)) 3 (0, 0))) (h3 : RowF y bo n (fun _ => -1)) (ne : bw ≠ bl ∧ bw ≠ bo ∧ bl ≠ bo) (hB : B ≤ wb ∧ B ≤ bw ∧ B ≤ bl ∧ B ≤ bo) :
    WAt y B wb ev n bw bl bo (.slice none 0 0) start := by
  have r3 : (Array.replicate n (Value.int .i64 0)) = ((List.range n).map fun i => Value.int .i64 (natI (fun _ => 0) i)).toArray := by
    have : (fun i => Value.int .i64 (natI (fun _ => 0) i)) = fun _ => Value.int .i64 0 := by funext i; rfl
    rw [this, List.map_const']; simp
  refine ⟨hd, ?_, ?_, h3, World.ownsRow_nil _ _ _ _, ne.1, ne.2.1, ne.2.2, fun g hg => by simp [Value.ownBlock] at hg, hB.1, hB.2.1, hB.2.2.1, hB.2.2.2⟩
  · unfold RowF
    rw [h1, r3]; rfl
  · unfold RowF
    rw [h2, r3]; rfl

set_option maxRecDepth 20000 in
set_option maxHeartbeats 1000000 in
theorem parts_bad (w : World) (v : Value) (G : List (List Int)) (h : RowsIn w v G) (hr : rightB G = false) :
    Calls Try.prog 13 #[v] w fun e w' => e = .returned (.tuple #[.slice none 0 0, .int .i64 130]) ∧ Below w.heap.size w w' := by
  have H := right_any w v G h
  rw [hr] at H
  have HH := hid H
  clear H h hr
  go_enter Try.func13, Try.ntmps13
  go_wp2_with fail
  refine HH.out.mono ?_
  rintro e w' ⟨rfl, hb⟩
  go_wp2_with fail
  go_ret2
  exact ⟨rfl, hb⟩

set_option maxRecDepth 20000 in
set_option maxHeartbeats 8000000 in
theorem parts_right (w : World) (ev : Value) (g : Gr) (h : RowsIn w ev (castG g)) {M : Nat} (R : RightG g) (hn : g.length ≤ 2000) (hM : ∀ k, (edges g k).length ≤ M) (hM2 : (g.length + 1) * M ≤ 1000000) :
    Calls Try.prog 13 #[ev] w (PartsPost w g) := by
  have hr : rightB (castG g) = true := by
    unfold rightB badGraph
    rw [castG_length]
    simp only [Bool.and_eq_true, decide_eq_true_eq, Bool.not_eq_true', List.any_eq_false]
    refine ⟨hn, fun l hl => ?_⟩
    obtain ⟨i, hi, e⟩ := List.getElem_of_mem hl
    rw [castG_length] at hi
    have h2 := castG_get hi
    rw [List.getElem?_eq_getElem (by rw [castG_length]; exact hi), e] at h2
    rw [Option.some.inj h2]
    unfold badRow
    rw [List.any_eq_true]
    rintro ⟨x, hx, hb⟩
    obtain ⟨j, hj, rfl⟩ := List.mem_map.1 hx
    have := R i j hj
    simp only [badX, Bool.or_eq_true, decide_eq_true_eq] at hb
    omega
  have H := right_any w ev (castG g) h
  rw [hr] at H
  have HH := hid H
  have HRI := hid h
  have HR := hid R
  have HM := hid hM
  have HM2 := hid hM2
  obtain ⟨ao, ac, eb, eo, rfl, _⟩ := h
  rw [castG_length] at HH HRI ⊢
  obtain ⟨n, hnn⟩ : ∃ n, n = g.length := ⟨_, rfl⟩
  rw [← hnn] at HH hn HRI HM2 ⊢
  have hmk := make_ints n (by omega)
  have HN := hid hnn
  clear H hr hnn R hM hM2
  go_enter Try.func13, Try.ntmps13
  go_wp2_with fail
  refine HH.out.mono ?_
  rintro e w1 ⟨rfl, hb⟩
  go_wp2_with fail
  rename_i K hK
  have HK := hid hK
  clear hK
  have HRP := hid (fun (x : World) (xb : Nat) (hx : x.cell? ⟨xb, 0, none⟩ = some (.int .i64 (-1))) => repeat_any x xb n hx (by omega))
  go_region_with (first | (go_at_call 22; refine (HRP.out _ _ ?_).mono ?_; (first | exact cell_new0 _ _ (by simp) _ _ | exact cell_new1 _ _ (by simp) _ _ _ | exact cell_new2 _ _ (by simp) _ _ _ _); rintro e w2 ⟨rfl, r2, b2⟩))
  all_goals (
    have HPT := fun {x : World} {B wb n bw bl bo ec M : Nat} {ao : Option Addr} {g : Gr} => @parts_tail w x B wb n bw bl bo ec M ao g
    simp only [rest13, sndSeq, Try.f13, Option.getD_some] at HPT
    go_wp2_with fail
    refine HK.out _ _ ?_
    have hs2 := b2.size
    have hs3 := r2.lt
    have hs1 := hb.size
    go_simp
    refine HPT _ _ _ _ _ _ _ _ _ _ _ _ _ _ _ _ _ _ _ _ _ _ _ _ _ _ _ _ _ _ _ _ _ _ _ _ _ _ _ _ _ _ _ _ _ _ _ _ _ _ _ _ _ _ _ _ _ _ _ _ _ _ _ _ _ _ _ _ _ _ _ _ _ _ _ _ _ _ _ _ _ _ _ _ _ _ _ _ _ _ _ _ _ _ _ _ _ _ _ _ _ _ _ _ _ _ _ _ _ _ _ _ _ _ _ _ _ _ _ _ _ _ _ _ _ _ _ _ _ _ _ _ _ _ _ _ _ _ _ _ _ _ _ _ _ _ _ _ _ _ _ _ _ _ _ _ _ _ _ _ _ _ _ _ _ _ _ _ _ _ _ _ _ _ _ _ _ _ _ _ _ _ HN.out hn HR.out rfl HM.out HM2.out HRI.out (wat_start (heap_new_at _ _ ?h0 _) ?h1 ?h2 ?h3 ?ne ?hB) ?hbel
    case h0 => simp
    case h1 => repeat (with_reducible (first | (refine heap_new_at _ _ ?_ _; simp; done) | refine heap_alloc_keep ?_ _ | refine heap_drew ?_ | refine heap_bel b2 ?_))
    case h2 => repeat (with_reducible (first | (refine heap_new_at _ _ ?_ _; simp; done) | refine heap_alloc_keep ?_ _ | refine heap_drew ?_ | refine heap_bel b2 ?_))
    case h3 =>
      repeat (with_reducible (refine rowf_keep ?_ _))
      simpa using r2
    case ne => simp at hs3; refine ⟨?_, ?_, ?_⟩ <;> omega
    case hB =>
      simp at hs2
      refine ⟨?_, ?_, ?_, ?_⟩
      all_goals omega
    case hbel =>
      refine Chg.nil_below ?_
      repeat (with_reducible (first | exact Chg.of_below hb | refine Chg.alloc ?_ _ | refine Chg.drew ?_ | refine Chg.trans ?_ (Chg.of_below (F := []) b2) (by simp))))

end Go.Proofs.Ytagfgbmaibadjaa
