/- Contract of the walker's meet. -/
import Derived.Test.YtagfgbmaibadjaaIsMem
namespace Go.Proofs.Ytagfgbmaibadjaa
open Go.RowKit Go.Lib

def MeetEnd (w : World) (B wb : Nat) (ev : Value) (n bw bl bo : Nat) (ov : Value) (s : St) (k : Nat) (e : Ending) (w' : World) : Prop :=
  e = .returned (.tuple #[]) ∧ ∃ ov', WAt w' B wb ev n bw bl bo ov' (meet s k) ∧ WChg wb bw bl bo ov ov' w w'

/-- the two rows written, then the list of the open ones -/
theorem meet_end {w w1 : World} {B wb n bw bl bo k : Nat} {ev ov : Value} {s : St} (A : WAt w B wb ev n bw bl bo ov s) (hs : s.opn.length ≤ 1000000)
    (hw1 : w1 = (((w.setCell ⟨wb, 5, none⟩ (.int .i64 ((s.time : Int) + 1))).setCell ⟨bw, k, none⟩ (.int .i64 ((s.time : Int) + 1))).setCell ⟨bl, k, none⟩ (.int .i64 ((s.time : Int) + 1))).drew ∨
      w1 = (((w.setCell ⟨wb, 5, none⟩ (.int .i64 ((s.time : Int) + 1))).setCell ⟨bl, k, none⟩ (.int .i64 ((s.time : Int) + 1))).setCell ⟨bw, k, none⟩ (.int .i64 ((s.time : Int) + 1))).drew) :
    w1.cell? ⟨wb, 3, none⟩ = some ov ∧ ∃ a c w2, (Builtin.append_ #[24, 24] 24 #[ov, .slice (some ⟨w.heap.size, 0, none⟩) 1 1]).run Try.prog (w1.alloc (.cells #[.int .i64 (k : Int)] 3)) = .ok (.slice a (s.opn.length + 1) c) w2 ∧
      w2.cell? ⟨wb, 3, none⟩ = some ov ∧ w2.frozen? ⟨wb, 3, none⟩ = false ∧ MeetEnd w B wb ev n bw bl bo ov s k (.returned (.tuple #[])) (w2.setCell ⟨wb, 3, none⟩ (.slice a (s.opn.length + 1) c)) := by
  have nwb : wb ≠ bw ∧ wb ≠ bl ∧ wb ≠ bo := ⟨heap_ne A.hd A.rw (by decide), heap_ne A.hd A.rl (by decide), heap_ne A.hd A.ro (by decide)⟩
  have now : wb ∉ own ov := fun hm => by
    simp only [own, Option.mem_toList] at hm
    obtain ⟨cur, hc⟩ := owns_cells A.op hm
    exact heap_ne hc A.hd (by decide) rfl
  have ow := A.ow
  have a1 := heap_setCell_at (i := 5) A.hd (.int .i64 ((s.time : Int) + 1))
  have hd1 : w1.heap[wb]? = some (.cells #[ev, .slice (some ⟨bw, 0, none⟩) n n, .slice (some ⟨bl, 0, none⟩) n n, ov, .slice (some ⟨bo, 0, none⟩) n n, .int .i64 ((s.time : Int) + 1), .int .i64 (s.many : Int)] 46 (0, 0)) := by
    rcases hw1 with rfl | rfl
    · exact heap_setCell_far (heap_setCell_far (w := w.setCell _ _) a1 nwb.1 _) nwb.2.1 _
    · exact heap_setCell_far (heap_setCell_far (w := w.setCell _ _) a1 nwb.2.1 _) nwb.1 _
  have e1 : natI (meet s k).wn = upd (natI s.wn) k ((s.time : Int) + 1) := by
    show natI (upd s.wn k (s.time + 1)) = _
    rw [← natI_upd]; rfl
  have e2 : natI (meet s k).low = upd (natI s.low) k ((s.time : Int) + 1) := by
    show natI (upd s.low k (s.time + 1)) = _
    rw [← natI_upd]; rfl
  have rw0 : RowF (w.setCell ⟨wb, 5, none⟩ (.int .i64 ((s.time : Int) + 1))) bw n (natI s.wn) := A.rw.far (p := ⟨wb, 5, none⟩) nwb.1.symm _
  have rl0 : RowF (w.setCell ⟨wb, 5, none⟩ (.int .i64 ((s.time : Int) + 1))) bl n (natI s.low) := A.rl.far (p := ⟨wb, 5, none⟩) nwb.2.1.symm _
  have rw1 : RowF w1 bw n (natI (meet s k).wn) := by
    rw [e1]
    rcases hw1 with rfl | rfl
    · exact (rw0.set _).far (p := ⟨bl, k, none⟩) A.wl _
    · exact (rw0.far (p := ⟨bl, k, none⟩) A.wl _).set _
  have rl1 : RowF w1 bl n (natI (meet s k).low) := by
    rw [e2]
    rcases hw1 with rfl | rfl
    · exact (rl0.far (p := ⟨bw, k, none⟩) A.wl.symm _).set _
    · exact (rl0.set _).far (p := ⟨bw, k, none⟩) A.wl.symm _
  have ch1 : Chg [wb, bw, bl] w w1 := by
    rcases hw1 with rfl | rfl
    · exact ((((Chg.refl _ w).setCell (by simp) _).setCell (by simp) _).setCell (by simp) _).drew
    · exact ((((Chg.refl _ w).setCell (by simp) _).setCell (by simp) _).setCell (by simp) _).drew
  have nov : ∀ g, ov.ownBlock = some g → g ∉ [wb, bw, bl] := fun g hg => by
    have := ow g hg
    simp only [List.mem_cons, List.not_mem_nil, or_false, not_or]
    exact ⟨fun e => now (by simp [own, hg, e]), this.1, this.2.1⟩
  have op1 := ch1.owns A.op nov
  have ro1 : RowF w1 bo n (islI s.isl) := A.ro.chg ch1 (by simp [nwb.2.2.symm, A.wo.symm, A.lo.symm])
  have hB : B ≤ w1.heap.size := by have := A.b0; have := heap_lt A.hd; have := ch1.size; omega
  obtain ⟨a, c, w2, h1, h2, ch2, ho⟩ := app_int op1 hB hs (k : Int)
  have nb : ∀ b, (b = bw ∨ b = bl ∨ b = bo) → b ∉ own ov := fun b hb hm => by
    simp only [own, Option.mem_toList] at hm
    have := ow b hm
    omega
  have hd2 := ch2.heap hd1 now
  have ch3 : Chg [wb] w2 (w2.setCell ⟨wb, 3, none⟩ (.slice a (s.opn.length + 1) c)) := (Chg.refl _ w2).setCell (by simp) _
  have lt1 := ch1.size
  have hsz : w1.heap.size = w.heap.size := by rcases hw1 with rfl | rfl <;> simp [World.drew]
  rw [hsz] at h1
  refine ⟨cell_of (i := 3) hd1 rfl, a, c, w2, h1, cell_of (i := 3) hd2 rfl, free_of (i := 3) hd2, rfl, .slice a (s.opn.length + 1) c, ⟨?_, ?_, ?_, ?_, ?_, A.wl, A.wo, A.lo, ?_, A.b0, A.b1, A.b2, A.b3⟩, ?_, ?_⟩
  · exact heap_setCell_at hd2 _
  · exact (rw1.chg ch2 (nb bw (by simp))).chg ch3 (by simp [nwb.1.symm])
  · exact (rl1.chg ch2 (nb bl (by simp))).chg ch3 (by simp [nwb.2.1.symm])
  · exact (ro1.chg ch2 (nb bo (by simp))).chg ch3 (by simp [nwb.2.2.symm])
  · have e : (meet s k).opn = s.opn ++ [k] := rfl
    rw [e, List.length_append, natCells, List.map_append]
    refine ch3.owns h2 (fun g hg => ?_)
    obtain ⟨cur, hc⟩ := owns_cells h2 hg
    simpa using heap_ne hc hd2 (by decide)
  · intro g hg
    rcases ho g hg with h | h
    · exact ow g h
    · have := A.rw.lt; have := A.rl.lt; have := A.ro.lt; omega
  · exact (ch1.mono (by simp +contextual)).trans ((ch2.mono (G := wb :: bw :: bl :: bo :: own ov) (by simp +contextual)).trans (ch3.mono (by simp)) (fun g hg => .inl hg)) (fun g hg => .inl hg)
  · intro g hg
    rcases ho g hg with h | h
    · exact .inl h
    · exact .inr (by omega)

set_option maxHeartbeats 1000000 in
theorem meet_any {w : World} {B wb n bw bl bo k : Nat} {ev ov : Value} {s : St} (A : WAt w B wb ev n bw bl bo ov s) (hk : k < n) (ht : s.time ≤ 1000000) (hs : s.opn.length ≤ 1000000) (_hn : n ≤ 1000000) :
    Calls Try.prog 37 #[.pointer (some ⟨wb, 0, none⟩), .int .i64 (k : Int)] w (MeetEnd w B wb ev n bw bl bo ov s k) := by
  have c5 := cell_of (i := 5) A.hd rfl
  have f5 := free_of (i := 5) A.hd
  have a1 := heap_setCell_at (i := 5) A.hd (.int .i64 ((s.time : Int) + 1))
  have d1 := cell_of (i := 1) a1 rfl
  have d2 := cell_of (i := 2) a1 rfl
  have d5 := cell_of (i := 5) a1 rfl
  have nwb : wb ≠ bw ∧ wb ≠ bl := ⟨heap_ne A.hd A.rw (by decide), heap_ne A.hd A.rl (by decide)⟩
  have rw0 : RowF (w.setCell ⟨wb, 5, none⟩ (.int .i64 ((s.time : Int) + 1))) bw n (natI s.wn) := A.rw.far (p := ⟨wb, 5, none⟩) nwb.1.symm _
  have rl0 : RowF (w.setCell ⟨wb, 5, none⟩ (.int .i64 ((s.time : Int) + 1))) bl n (natI s.low) := A.rl.far (p := ⟨wb, 5, none⟩) nwb.2.symm _
  have g1 := rw0.get hk
  have g2 := rl0.get hk
  have k1 := rw0.free (i := k)
  have k2 := rl0.free (i := k)
  have x1 := (rw0.far (p := ⟨bl, k, none⟩) A.wl (.int .i64 ((s.time : Int) + 1))).get hk
  have x2 := (rl0.far (p := ⟨bw, k, none⟩) A.wl.symm (.int .i64 ((s.time : Int) + 1))).get hk
  have y1 := (rw0.far (p := ⟨bl, k, none⟩) A.wl (.int .i64 ((s.time : Int) + 1))).free (i := k)
  have y2 := (rl0.far (p := ⟨bw, k, none⟩) A.wl.symm (.int .i64 ((s.time : Int) + 1))).free (i := k)
  have HE := hid (fun w1 hw1 => meet_end (w1 := w1) (k := k) A hs hw1)
  clear A a1 rw0 rl0
  go_enter Try.func37, Try.ntmps37
  go_wp2_with fail
  go_region
  obtain ⟨q3, a, c, w2, hr, cc, ff, fin⟩ := HE.out _ (.inl rfl)
  have FIN := hid fin
  clear HE fin c5 f5 d1 d2 d5 g1 g2 k1 k2 x1 x2 y1 y2
  go_wp2_with (at_builtin; refine wpList_append_run rfl (.tmp 35) (.tmp 37) 24 rfl _ _ rfl rfl hr ?_)
  go_end0
  exact FIN.out

end Go.Proofs.Ytagfgbmaibadjaa
