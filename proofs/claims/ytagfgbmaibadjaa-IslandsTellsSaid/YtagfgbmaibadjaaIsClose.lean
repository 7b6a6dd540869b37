/- Contract of the walker's close. -/
import Derived.Test.YtagfgbmaibadjaaIsMeet
namespace Go.Proofs.Ytagfgbmaibadjaa
open Go.RowKit Go.Lib

theorem own_ints {w : World} {B : Nat} {v : Value} {l : List Nat} (h : w.ownsRow B 3 1 v l.length (natCells l)) (hl : ∀ x ∈ l, x ≤ 1000000) (hn : l.length ≤ 1000000) : IntsIn w v (l.map fun (x : Nat) => (x : Int)) := by
  rcases h.2 with ⟨rfl, h0⟩ | ⟨g, cap, cur, rfl, _⟩
  · have : l = [] := List.eq_nil_of_length_eq_zero h0
    subst this
    exact ⟨none, 0, 0, 0, rfl, by simp, by simp⟩
  · refine ⟨_, cap, g, 0, by rw [List.length_map], by simp; omega, fun j x hx => ⟨rfl, ?_, ?_⟩⟩
    · simp only [List.getElem?_map, Option.map_eq_some_iff] at hx
      obtain ⟨y, hy, rfl⟩ := hx
      have hj : j < l.length := (List.getElem?_eq_some_iff.1 hy).1
      rw [Nat.zero_add, h.cellAt j (by omega)]
      simp [natCells, hy]
    · simp only [List.getElem?_map, Option.map_eq_some_iff] at hx
      obtain ⟨y, hy, rfl⟩ := hx
      have := hl y (List.mem_of_getElem? hy)
      omega
theorem idxOf_cast (k : Nat) : ∀ l : List Nat, (l.map fun (x : Nat) => (x : Int)).idxOf (k : Int) = l.idxOf k
  | [] => rfl
  | y :: l => by
    simp only [List.map_cons, List.idxOf_cons, idxOf_cast k l]
    by_cases h : y = k
    · subst h; simp
    · have h1 : ((y : Int) == (k : Int)) = false := by rw [beq_eq_false_iff_ne]; omega
      have h2 : (y == k) = false := by simpa using h
      rw [h1, h2]
theorem find_cast {k : Nat} {l : List Nat} (h : k ∈ l) : findI (k : Int) (l.map fun (x : Nat) => (x : Int)) = (l.idxOf k : Int) := by
  unfold findI
  rw [if_pos (List.mem_map.2 ⟨k, h, rfl⟩), idxOf_cast]

def CloseEnd (w : World) (B wb : Nat) (ev : Value) (n bw bl bo : Nat) (ov : Value) (s : St) (k : Nat) (e : Ending) (w' : World) : Prop :=
  e = .returned (.tuple #[]) ∧ ∃ ov', WAt w' B wb ev n bw bl bo ov' (shut s k) ∧ WChg wb bw bl bo ov ov' w w'

/-- the islands' numbers with so many of the open ones closed -/
def isl2 (s : St) (q j : Nat) : Nat → Option Nat := fun i => if i ∈ (s.opn.drop q).take j then some s.many else s.isl i
theorem isl2_step {s : St} {q j x : Nat} (hx : (s.opn.drop q)[j]? = some x) : upd (islI (isl2 s q j)) x (s.many : Int) = islI (isl2 s q (j + 1)) := by
  obtain ⟨hj, e⟩ := List.getElem?_eq_some_iff.1 hx
  funext i
  unfold islI isl2 upd
  rw [List.take_succ_eq_append_getElem hj, e]
  by_cases h : i = x
  · subst h; simp
  · simp [h]

def CloseRel (w : World) (B wb : Nat) (ev : Value) (n bw bl bo : Nat) (ov : Value) (s : St) (q : Nat) (i : Value) (wr : World) : Prop :=
  ∃ j : Nat, i = .int .i64 (j : Int) ∧ j ≤ s.opn.length - q ∧ WAt wr B wb ev n bw bl bo ov { s with isl := isl2 s q j } ∧ Chg [bo] w wr

theorem close_step {w wr : World} {B wb n bw bl bo q j x : Nat} {ev ov : Value} {s : St} (A : WAt wr B wb ev n bw bl bo ov { s with isl := isl2 s q j }) (hx : (s.opn.drop q)[j]? = some x) (hch : Chg [bo] w wr) (hj : j < s.opn.length - q) (m : Nat) :
    CloseRel w B wb ev n bw bl bo ov s q (.int .i64 ((j : Int) + 1)) ((wr.setCell ⟨bo, x, none⟩ (.int .i64 (s.many : Int))).drewN m) := by
  have ch : Chg [bo] wr ((wr.setCell ⟨bo, x, none⟩ (.int .i64 (s.many : Int))).drewN m) := ((Chg.refl [bo] wr).setCell (by simp) _).drewN m
  have nwb : wb ≠ bo := heap_ne A.hd A.ro (by decide)
  refine ⟨j + 1, by simp, by omega, ⟨ch.heap A.hd (by simpa using nwb), A.rw.chg ch (by simpa using A.wo), A.rl.chg ch (by simpa using A.lo), ?_, ch.owns A.op (fun g hg => by simpa using (A.ow g hg).2.2), A.wl, A.wo, A.lo, A.ow, A.b0, A.b1, A.b2, A.b3⟩, hch.trans ch (by simp)⟩
  have := A.ro.set (k := x) (s.many : Int)
  rw [isl2_step hx] at this
  exact this.chg ((Chg.refl [] _).drewN m) (by simp)

theorem ownBlock_len (a : Option Addr) (n c m d : Nat) : (Value.slice a n c).ownBlock = (Value.slice a m d).ownBlock := by cases a <;> rfl

theorem close_end {w wr : World} {B wb n bw bl bo k : Nat} {ev ov : Value} {s : St} {a : Option Addr} {c : Nat} (A : WAt wr B wb ev n bw bl bo ov { s with isl := isl2 s (s.opn.idxOf k) (s.opn.length - s.opn.idxOf k) }) (hch : Chg [bo] w wr) (hk : k ∈ s.opn) (hv : ov = .slice a s.opn.length c) :
    (wr.setCell ⟨wb, 3, none⟩ (.slice a (s.opn.idxOf k) c)).cell? ⟨wb, 6, none⟩ = some (.int .i64 (s.many : Int)) ∧ (wr.setCell ⟨wb, 3, none⟩ (.slice a (s.opn.idxOf k) c)).frozen? ⟨wb, 6, none⟩ = false ∧
    CloseEnd w B wb ev n bw bl bo ov s k (.returned (.tuple #[])) ((wr.setCell ⟨wb, 3, none⟩ (.slice a (s.opn.idxOf k) c)).setCell ⟨wb, 6, none⟩ (.int .i64 ((s.many : Int) + 1))) := by
  have hq := List.idxOf_lt_length_of_mem hk
  have hd1 := heap_setCell_at (i := 3) A.hd (.slice a (s.opn.idxOf k) c)
  have ch : Chg [wb] wr ((wr.setCell ⟨wb, 3, none⟩ (.slice a (s.opn.idxOf k) c)).setCell ⟨wb, 6, none⟩ (.int .i64 ((s.many : Int) + 1))) := ((Chg.refl [wb] wr).setCell (by simp) _).setCell (by simp) _
  have nwb : wb ≠ bw ∧ wb ≠ bl ∧ wb ≠ bo := ⟨heap_ne A.hd A.rw (by decide), heap_ne A.hd A.rl (by decide), heap_ne A.hd A.ro (by decide)⟩
  have eo : isl2 s (s.opn.idxOf k) (s.opn.length - s.opn.idxOf k) = (shut s k).isl := by
    funext i
    unfold isl2
    rw [List.take_of_length_le (by simp)]
    rfl
  have h2 : (wr.setCell ⟨wb, 3, none⟩ (.slice a (s.opn.idxOf k) c)).heap[wb]? = some (.cells #[ev, .slice (some ⟨bw, 0, none⟩) n n, .slice (some ⟨bl, 0, none⟩) n n, .slice a (s.opn.idxOf k) c, .slice (some ⟨bo, 0, none⟩) n n, .int .i64 (s.time : Int), .int .i64 (s.many : Int)] 46 (0, 0)) := hd1
  refine ⟨cell_of (i := 6) h2 rfl, free_of (i := 6) h2, rfl, .slice a (s.opn.idxOf k) c, ⟨heap_setCell_at h2 _, A.rw.chg ch (by simp [nwb.1.symm]), A.rl.chg ch (by simp [nwb.2.1.symm]), ?_, ?_, A.wl, A.wo, A.lo, ?_, A.b0, A.b1, A.b2, A.b3⟩, ?_, ?_⟩
  · have := A.ro
    simp only [eo] at this
    exact this.chg ch (by simp [nwb.2.2.symm])
  · have hop := A.op
    rw [hv] at hop
    have e : (shut s k).opn = s.opn.take (s.opn.idxOf k) := rfl
    have el : (shut s k).opn.length = s.opn.idxOf k := by rw [e, List.length_take]; omega
    rw [el]
    refine ch.owns (v := .slice a (s.opn.idxOf k) c) ?_ (fun g hg => ?_)
    · refine ⟨by rw [natCells, List.length_map, el]; omega, ?_⟩
      rcases hop.2 with ⟨h1, h3⟩ | ⟨g, cap, cur, h1, h3, h4, h5, h6, h7, h8⟩
      · exfalso
        simp only at h3
        omega
      · injection h1 with h1 _ h1c
        subst h1 h1c
        refine .inr ⟨g, c, cur, rfl, h3, h4, ?_, h6, h7, ?_⟩
        · simp only at h5; omega
        · rw [Nat.mul_one]
          simp only [Nat.mul_one] at h8
          have : cur.toList.take (s.opn.idxOf k) = (cur.toList.take s.opn.length).take (s.opn.idxOf k) := by rw [List.take_take]; congr 1; omega
          rw [this, h8, e, natCells, natCells, List.map_take]
    · have hg2 : ov.ownBlock = some g := by rw [hv, ownBlock_len a _ _ (s.opn.idxOf k) c]; exact hg
      obtain ⟨cur, hc⟩ := owns_cells A.op hg2
      simpa using heap_ne hc A.hd (by decide)
  · intro g hg
    exact A.ow g (by rw [hv, ownBlock_len a _ _ (s.opn.idxOf k) c]; exact hg)
  · exact (hch.mono (by simp +contextual)).trans (ch.mono (G := wb :: bw :: bl :: bo :: own ov) (by simp)) (fun g hg => .inl hg)
  · intro g hg
    exact .inl (by rw [hv, ownBlock_len a _ _ (s.opn.idxOf k) c]; exact hg)

set_option maxHeartbeats 1000000 in
theorem close_any {w : World} {B wb n bw bl bo k : Nat} {ev ov : Value} {s : St} (A : WAt w B wb ev n bw bl bo ov s) (hk : k ∈ s.opn) (ho : ∀ x ∈ s.opn, x < n) (hs : s.opn.length ≤ 1000000) (hn : n ≤ 1000000) (hm : s.many ≤ 1000000) :
    Calls Try.prog 38 #[.pointer (some ⟨wb, 0, none⟩), .int .i64 (k : Int)] w (CloseEnd w B wb ev n bw bl bo ov s k) := by
  have hin := own_ints A.op (fun x hx => by have := ho x hx; omega) hs
  have HIX := hid (index_any w ov _ hin (k : Int) (by omega) (by have := ho k hk; omega))
  rw [find_cast hk] at HIX
  obtain ⟨q, hq⟩ : ∃ q, q = s.opn.idxOf k := ⟨_, rfl⟩
  have hql : q < s.opn.length := hq ▸ List.idxOf_lt_length_of_mem hk
  rw [← hq] at HIX
  obtain ⟨g, c, rfl⟩ : ∃ g c, ov = .slice (some ⟨g, 0, none⟩) s.opn.length c := by
    rcases A.op.2 with ⟨_, h⟩ | ⟨g, cap, cur, rfl, _⟩
    · omega
    · exact ⟨g, cap, rfl⟩
  have hcap : s.opn.length ≤ c := by
    rcases A.op.2 with ⟨_, h⟩ | ⟨g', cap, cur, he, _, _, h, _⟩
    · omega
    · injection he with _ _ h3
      omega
  have hcm : c ≤ 9223372036854775807 := by
    rcases A.op.2 with ⟨_, h⟩ | ⟨g', cap, cur, he, _, _, _, h, _⟩
    · omega
    · injection he with _ _ h3
      unfold maxLen at h
      omega
  have c3 := cell_of (i := 3) A.hd rfl
  have HA := hid A
  have HQ := hid hq
  have HK := hid hk
  have HO := hid ho
  clear A hq hk hin ho
  go_enter Try.func38, Try.ntmps38
  go_wp2_with fail
  refine HIX.out.mono ?_
  rintro e w' ⟨rfl, rfl⟩
  have hne : ¬ c = q := by omega
  have hqc : q ≤ c := by omega
  have hcell : ∀ (j x : Nat), (s.opn.drop q)[j]? = some x → ∀ y : World, WAt y B wb ev n bw bl bo (.slice (some ⟨g, 0, none⟩) s.opn.length c) { s with isl := isl2 s q j } → y.cell? ⟨g, q + j, none⟩ = some (.int .i64 (x : Int)) := fun j x hx y hy => by
    rw [List.getElem?_drop] at hx
    have hj : q + j < s.opn.length := (List.getElem?_eq_some_iff.1 hx).1
    have hop := hy.op
    rw [hop.cellAt (q + j) (by show q + j < s.opn.length * 1; omega)]
    simp [natCells, hx]
  have HC := hid hcell
  clear hcell HIX
  go_wp2_with fail
  go_loopw [20] (fun i wr => CloseRel w B wb ev n bw bl bo (.slice (some ⟨g, 0, none⟩) s.opn.length c) s q i wr) (fun i _ => s.opn.length - (intOf i).toNat)
  case atStart =>
    refine ⟨0, rfl, by omega, ?_, Chg.refl _ _⟩
    have : ({ s with isl := isl2 s q 0 } : St) = s := by
      have e : isl2 s q 0 = s.isl := by funext i; simp [isl2]
      rw [e]
    rw [this]
    exact HA.out
  case round =>
    obtain ⟨j, rfl, hj, A1, ch1⟩ := hrel
    have d3 := cell_of (i := 3) A1.hd rfl
    have d4 := cell_of (i := 4) A1.hd rfl
    have d6 := cell_of (i := 6) A1.hd rfl
    have HA1 := hid A1
    have HCH := hid ch1
    clear A1 ch1
    by_cases hgo : j < s.opn.length - q
    · obtain ⟨x, hx⟩ : ∃ x, (s.opn.drop q)[j]? = some x := ⟨(s.opn.drop q)[j]'(by simp; omega), by simp⟩
      have hcx := HC.out j x hx _ HA1.out
      have hxn := HO.out x (List.mem_of_mem_drop (List.mem_of_getElem? hx))
      have ST := hid (fun m => close_step HA1.out hx HCH.out hgo m)
      have gx := HA1.out.ro.get hxn
      have fx := HA1.out.ro.free (i := x)
      clear hx
      go_wp2_with fail
      go_region
      go_wp2_with fail
      go_roundw
      case rel => exact ST.out 1
      case measure => simp [intOf]; omega
    · obtain rfl : j = s.opn.length - q := by omega
      have f3 := free_of (i := 3) HA1.out.hd
      have EN := HA1.out
      rw [HQ.out] at EN
      obtain ⟨q1, q2, q3⟩ := close_end EN HCH.out HK.out rfl
      rw [← HQ.out] at q1 q2 q3
      have FIN := hid q3
      clear q3 EN
      go_wp2_with fail
      go_end0
      exact FIN.out

end Go.Proofs.Ytagfgbmaibadjaa
