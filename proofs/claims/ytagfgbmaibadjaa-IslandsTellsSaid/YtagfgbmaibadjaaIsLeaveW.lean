/- Contract of the document's own leave: the order in which a walk from all nodes leaves them. -/
import Derived.Test.YtagfgbmaibadjaaIsLeaveP
import Derived.Test.YtagfgbmaibadjaaIsLeadW
import Derived.Test.YtagfgbmaibadjaaIsOrderL
import Derived.Deep.LoopGhost
import Derived.Outline
namespace Go.Proofs.Ytagfgbmaibadjaa
open Go.RowKit Go.Lib

def stkCells (stk : Stk) : List Value := stk.reverse.flatMap fun e => [Value.int .i64 (e.1 : Int), Value.int .i64 (e.2.1 : Int)]
theorem stkCells_cons (s t d : Nat) (stk : Stk) : stkCells ((s, t, d) :: stk) = stkCells stk ++ [.int .i64 (s : Int), .int .i64 (t : Int)] := by
  unfold stkCells
  rw [List.reverse_cons, List.flatMap_append]
  rfl
theorem stkCells_length (stk : Stk) : (stkCells stk).length = stk.length * 2 := by
  induction stk with
  | nil => rfl
  | cons e stk ih =>
    obtain ⟨s, t, d⟩ := e
    rw [stkCells_cons, List.length_append, ih]
    simp
    omega

/-- how much is still to come, at most -/
def unmetW (g : Gr) (mt : Nat → Bool) (n : Nat) : Nat := ((List.range n).map fun x => if mt x = true then 0 else (edges g x).length + 2).sum
theorem unmetW_upd {g : Gr} {mt : Nat → Bool} {x : Nat} (h : mt x = false) : ∀ n, unmetW g (upd mt x true) n + (if x < n then (edges g x).length + 2 else 0) = unmetW g mt n
  | 0 => by simp [unmetW]
  | n + 1 => by
    have ih := unmetW_upd (g := g) h n
    unfold unmetW at ih ⊢
    rw [List.range_succ, List.map_append, List.map_append, List.sum_append, List.sum_append]
    simp only [List.map_cons, List.map_nil, List.sum_cons, List.sum_nil]
    by_cases h1 : x < n
    · rw [if_pos h1] at ih
      have h2 : x < n + 1 := by omega
      rw [if_pos h2, upd_far _ _ (by omega : n ≠ x)]
      omega
    · rw [if_neg h1] at ih
      by_cases h2 : n = x
      · subst h2
        rw [upd_same, h]
        simp
        omega
      · have h3 : ¬ x < n + 1 := by omega
        rw [if_neg h3, upd_far _ _ h2]
        omega
def stkW (g : Gr) (stk : Stk) : Nat := (stk.map fun e => (edges g e.1).length - e.2.1 + 1).sum
def potW (g : Gr) (mt : Nat → Bool) (stk : Stk) (n : Nat) : Nat := unmetW g mt n + stkW g stk

structure LvAt (w : World) (g : Gr) (n : Nat) (ov : Value) (mt : Nat → Bool) (order : List Nat) (wr : World) : Prop where
  met : RowB wr w.heap.size n mt
  out : wr.ownsRow w.heap.size 3 1 ov order.length (natCells order)
  bel : Below w.heap.size w wr
theorem LvAt.chg {w wr w' : World} {g : Gr} {n : Nat} {ov : Value} {mt : Nat → Bool} {order : List Nat} {F : List Nat} (A : LvAt w g n ov mt order wr) (c : Chg F wr w') (hF : ∀ b ∈ F, w.heap.size ≤ b ∧ (∀ cs, wr.heap[b]? ≠ some (.cells cs 4 (0, 0))) ∧ ∀ cs, wr.heap[b]? ≠ some (.cells cs 3 (0, 0))) : LvAt w g n ov mt order w' :=
  ⟨A.met.chg c (fun hm => (hF _ hm).2.1 _ A.met), c.owns A.out (fun b hb hm => by
    obtain ⟨y, hy⟩ := owns_cells A.out hb
    exact (hF _ hm).2.2 _ hy), A.bel.trans (c.below (fun b hb => (hF b hb).1) A.bel.size)⟩

def LeaveRel (w : World) (g : Gr) (n : Nat) (ov iv : Value) (wr : World) : Prop :=
  ∃ (i : Nat) (mt : Nat → Bool) (order : List Nat), iv = .int .i64 (i : Int) ∧ i ≤ n ∧ LvAt w g n ov mt order wr ∧ Lv g mt order [] ∧ ∀ x, x < i → mt x = true
def LeaveIn (w : World) (g : Gr) (n i : Nat) (gk : Nat) (ov wv : Value) (wr : World) : Prop :=
  ∃ (mt : Nat → Bool) (order : List Nat) (stk : Stk), LvAt w g n ov mt order wr ∧ wr.ownsRow w.heap.size 80 2 wv stk.length (stkCells stk) ∧ Lv g mt order stk ∧ (∀ x, x ≤ i → mt x = true) ∧ potW g mt stk n ≤ gk
def LeaveEnd (w : World) (g : Gr) (e : Ending) (w' : World) : Prop :=
  ∃ v order, e = .returned v ∧ w'.ownsRow w.heap.size 3 1 v order.length (natCells order) ∧ Order g order ∧ Below w.heap.size w w'

theorem Try.info80 : (Try.prog.info? 80).map (fun i => (i.zero, i.size, i.bytes)) = some (some (.agg #[.int .i64 0, .int .i64 0]), 2, 16) := by kernel_rfl

theorem stk_pop {w : World} {B m s t : Nat} {a : Option Addr} {c : Nat} {xs : List Value} (h : w.ownsRow B 80 2 (.slice a (m + 1) c) (m + 1) (xs ++ [.int .i64 (s : Int), .int .i64 (t : Int)])) (hl : xs.length = m * 2) : w.ownsRow B 80 2 (.slice a m c) m xs := by
  refine ⟨hl, ?_⟩
  rcases h.2 with ⟨_, h0⟩ | ⟨gb', c', cur, he, h3, hg, h1, h2, h4, h5⟩
  · omega
  · injection he with he1 _ he3
    subst he1 he3
    refine .inr ⟨gb', c, cur, rfl, h3, hg, by omega, h2, h4, ?_⟩
    have : cur.toList.take (m * 2) = (cur.toList.take ((m + 1) * 2)).take (m * 2) := by rw [List.take_take]; congr 1; omega
    rw [this, h5, ← hl, List.take_left]
theorem stk_set {w : World} {B m s t gb : Nat} {c : Nat} {xs : List Value} (h : w.ownsRow B 80 2 (.slice (some ⟨gb, 0, none⟩) (m + 1) c) (m + 1) (xs ++ [.int .i64 (s : Int), .int .i64 (t : Int)])) (hl : xs.length = m * 2) (v : Value) :
    (w.setCell ⟨gb, m * 2 + 1, none⟩ v).ownsRow B 80 2 (.slice (some ⟨gb, 0, none⟩) (m + 1) c) (m + 1) (xs ++ [.int .i64 (s : Int), v]) := by
  refine ⟨by simp [hl]; omega, ?_⟩
  rcases h.2 with ⟨h0, _⟩ | ⟨gb', c', cur, he, h3, hg, h1, h2, h4, h5⟩
  · simp at h0
  · injection he with he1 _ he3
    injection he1 with he1
    injection he1 with he1
    subst he1 he3
    refine .inr ⟨gb, c, _, rfl, h3, heap_setCell_at hg _, h1, h2, by simpa using h4, ?_⟩
    rw [Array.toList_setIfInBounds, List.take_set, h5, List.set_append_right _ _ (by omega), hl]
    congr 1
    simp
theorem stk_push {w : World} {B m k : Nat} {wv : Value} {xs : List Value} (h : w.ownsRow B 80 2 wv m xs) (hB : B ≤ w.heap.size) (hm : m ≤ 1000000) :
    ∃ a c w2, (Builtin.append_ #[81, 81] 81 #[wv, .slice (some ⟨w.heap.size, 0, none⟩) 1 1]).run Try.prog (w.alloc (.cells #[.int .i64 (k : Int), .int .i64 0] 80)) = .ok (.slice a (m + 1) c) w2 ∧
      w2.ownsRow B 80 2 (.slice a (m + 1) c) (m + 1) (xs ++ [.int .i64 (k : Int), .int .i64 0]) ∧ Chg (own wv) w w2 := by
  obtain ⟨i0, hi, hz0, hz1, hz2⟩ := info_parts Try.info80
  obtain ⟨v', w2, h1, h2, h3, _, _⟩ := run_append_own_at (P := Try.prog) (w.alloc (.cells #[.int .i64 (k : Int), .int .i64 0] 80)) B 81 81 80 i0 (.agg #[.int .i64 0, .int .i64 0]) 2 16 Try.underlying81 hi hz0 hz1 hz2 rfl (by decide) wv m xs (h.alloc _)
    ⟨w.heap.size, 0, none⟩ 1 1 [.int .i64 (k : Int), .int .i64 0] rfl (cell_two_new2 rfl _ _ _) (by intro u hu; simp at hu; rcases hu with rfl | rfl <;> rfl) (by unfold maxLen; omega) (by omega) (by simp; omega)
  obtain ⟨a, c, rfl, _⟩ := ownsRow_view h2
  exact ⟨a, c, w2, h1, h2, ((Chg.refl _ w).alloc _).grown h3 (fun x hx => .inl (by simp [own, hx]))⟩
theorem own_far {w : World} {B B2 m m2 size size2 : Nat} {e e2 : TypeId} {v v2 : Value} {xs xs2 : List Value} (h : w.ownsRow B e size v m xs) (h2 : w.ownsRow B2 e2 size2 v2 m2 xs2) (he : e ≠ e2) : ∀ b, v.ownBlock = some b → b ∉ own v2 := fun b hb hm => by
  simp only [own, Option.mem_toList] at hm
  obtain ⟨x, hx⟩ := owns_cells h hb
  obtain ⟨y, hy⟩ := owns_cells h2 hm
  exact heap_ne hx hy he rfl
theorem potW_top {g : Gr} {mt : Nat → Bool} {s t d n : Nat} {rest : Stk} : potW g mt ((s, t, d) :: rest) n = potW g mt rest n + ((edges g s).length - t + 1) := by
  unfold potW stkW
  simp
  omega
theorem stk_len {g : Gr} {mt : Nat → Bool} {order : List Nat} {stk : Stk} (L : Lv g mt order stk) : stk.length ≤ g.length := by
  have h1 := (List.nodup_append.1 L.nd).2.1
  have := pigeon0 g.length (stkN stk) h1 (fun x hx => L.lt x ((L.met x).2 (.inr hx)))
  simpa [stkN] using this
theorem order_len {g : Gr} {mt : Nat → Bool} {order : List Nat} {stk : Stk} (L : Lv g mt order stk) : order.length ≤ g.length := pigeon0 g.length order (List.nodup_append.1 L.nd).1 (fun x hx => L.lt x ((L.met x).2 (.inl hx)))

set_option maxRecDepth 20000 in
set_option maxHeartbeats 4000000 in
theorem leave_any {w : World} {v : Value} {g : Gr} {n M : Nat} (h : RowsIn w v (castG g)) (hn : n = g.length) (hn2 : n ≤ 2000) (R : RightG g) (hM : ∀ k, (edges g k).length ≤ M) (hM2 : (n + 1) * M ≤ 1000000) : Calls Try.prog 39 #[v] w (LeaveEnd w g) := by
  obtain ⟨ao, gc, rfl, _⟩ := rows_view h
  rw [castG_length, ← hn] at h ⊢
  have H := hid h
  have HN := hid hn
  have HR := hid R
  have HM := hid hM
  have HM2 := hid hM2
  have hmk := make_bools n (by omega)
  have r0 : RowB (w.alloc (.cells (List.replicate n (Value.bool false)).toArray 4)) w.heap.size n (fun _ => false) := by
    have e := heap_alloc_new w (.cells (List.replicate n (Value.bool false)).toArray 4)
    unfold RowB
    rw [e, List.map_const']; simp
  have R0 := hid (show LeaveRel w g n (.slice none 0 0) (.int .i64 0) (w.alloc (.cells (List.replicate n (Value.bool false)).toArray 4)) from
    ⟨0, _, [], rfl, by omega, ⟨r0, World.ownsRow_nil _ _ _ _, (Below.refl _ w).alloc (Nat.le_refl _) _⟩, lv_start g, fun x hx => by omega⟩)
  simp only [List.toArray_replicate] at R0
  clear r0 h hn R hM hM2
  go_enter Try.func39, Try.ntmps39
  go_wp2_with fail
  clear hmk
  go_loopw [4, 5] (fun ov iv wr => LeaveRel w g n ov iv wr) (fun _ iv _ => n - (intOf iv).toNat)
  case atStart => exact R0.out
  case round =>
    clear R0
    obtain ⟨i, mt, order, rfl, hi, A, L, hmi⟩ := hrel
    by_cases hgo : i < n
    · have g1 := A.met.get hgo
      have g2 := A.met.free (i := i)
      by_cases hmt : mt i = true
      · rw [hmt] at g1
        have RR := hid (show LeaveRel w g n u4 (.int .i64 ((i : Int) + 1)) wr from ⟨i + 1, mt, order, by simp, by omega, A, L, fun x hx => by
          by_cases e : x = i
          · subst e; exact hmt
          · exact hmi x (by omega)⟩)
        clear A L hmi hmt
        go_wp2_with fail
        go_roundw
        case rel => exact RR.out
        case measure => simp [intOf]; omega
      · have hmf : mt i = false := by simpa using hmt
        rw [hmf] at g1
        have hil : i < g.length := by have := HN.out; omega
        have P := L.push hil hmf (by simp [stkN])
        have cz : Chg [w.heap.size] wr (wr.setCell ⟨w.heap.size, i, none⟩ (.bool true)) := (Chg.refl _ wr).setCell (by simp) _
        have AZ : LvAt w g n u4 (upd mt i true) order ((wr.setCell ⟨w.heap.size, i, none⟩ (.bool true)).alloc (.cells #[.int .i64 (i : Int), .int .i64 0] 80)) := by
          have h1 : LvAt w g n u4 (upd mt i true) order (wr.setCell ⟨w.heap.size, i, none⟩ (.bool true)) := ⟨A.met.set true, cz.owns A.out (fun b hb hm => by
            simp only [List.mem_singleton] at hm
            subst hm
            obtain ⟨y, hy⟩ := owns_cells A.out hb
            exact heap_ne hy A.met (by decide) rfl), A.bel.setCell (Nat.le_refl _) _⟩
          exact h1.chg (F := []) ((Chg.refl _ _).alloc _) (by simp)
        have hsz : (wr.setCell ⟨w.heap.size, i, none⟩ (.bool true)).heap.size = wr.heap.size := by simp
        have hrow : ((wr.setCell ⟨w.heap.size, i, none⟩ (.bool true)).alloc (.cells #[.int .i64 (i : Int), .int .i64 0] 80)).ownsRow w.heap.size 80 2 (.slice (some ⟨wr.heap.size, 0, none⟩) 1 1) 1 (stkCells [(i, 0, order.length)]) := by
          have e := heap_alloc_new (wr.setCell ⟨w.heap.size, i, none⟩ (.bool true)) (.cells #[.int .i64 (i : Int), .int .i64 0] 80)
          rw [hsz] at e
          exact ⟨rfl, .inr ⟨wr.heap.size, 1, _, rfl, A.bel.size, e, Nat.le_refl _, by simp [maxLen], rfl, rfl⟩⟩
        have RI := hid (show LeaveIn w g n i (potW g (upd mt i true) [(i, 0, order.length)] n) u4 (.slice (some ⟨wr.heap.size, 0, none⟩) 1 1) ((wr.setCell ⟨w.heap.size, i, none⟩ (.bool true)).alloc (.cells #[.int .i64 (i : Int), .int .i64 0] 80)) from
          ⟨_, order, [(i, 0, order.length)], AZ, hrow, P, fun x hx => by
            by_cases e : x = i
            · subst e; exact upd_same _ _ _
            · rw [upd_far _ _ e]; exact hmi x (by omega), Nat.le_refl _⟩)
        clear A L P cz AZ hrow hmi hmt hsz
        go_wp2_with fail
        go_loopg [4, 6] (potW g (upd mt i true) [(i, 0, order.length)] n) (fun gk ov wv y => LeaveIn w g n i gk ov wv y)
        case atStart => exact RI.out
        case round =>
          clear RI
          obtain ⟨mt, order, stk, A, hrow, L, hmi, hpot⟩ := hrel
          rcases stk with _ | ⟨⟨s, t, d⟩, rest⟩
          · obtain ⟨qa, qc, rfl, _⟩ := ownsRow_view hrow
            simp only [List.length_nil]
            have RR := hid (show LeaveRel w g n u4 (.int .i64 ((i : Int) + 1)) wr from ⟨i + 1, mt, order, by simp, by omega, A, L, fun x hx => hmi x (by omega)⟩)
            clear A hrow L hmi hpot
            go_wp2_with fail
            go_roundw
            case rel => exact RR.out
            case measure => simp [intOf]; omega
          · obtain ⟨m, hm⟩ : ∃ m, m = rest.length := ⟨_, rfl⟩
            have hlen : ((s, t, d) :: rest).length = m + 1 := by rw [hm]; rfl
            rw [hlen, stkCells_cons] at hrow
            obtain ⟨qa, qc, rfl, _⟩ := ownsRow_view hrow
            have hview : ∃ qb, qa = some ⟨qb, 0, none⟩ ∧ m + 1 ≤ qc ∧ qc ≤ 9223372036854775807 ∧ wr.cell? ⟨qb, m * 2, none⟩ = some (.int .i64 (s : Int)) ∧ wr.cell? ⟨qb, m * 2 + 1, none⟩ = some (.int .i64 (t : Int)) ∧ wr.frozen? ⟨qb, m * 2 + 1, none⟩ = false := by
              have hsl := stkCells_length rest
              rcases hrow.2 with ⟨_, h0⟩ | ⟨qb, cap, cur, e, k1, k2, k3, k4, _⟩
              · omega
              · unfold maxLen at k4
                injection e with e1 e2 e3
                subst e1 e3
                refine ⟨qb, rfl, k3, k4, ?_, ?_, free_of k2⟩
                · have := hrow.cells (g := qb) rfl (m * 2) (.int .i64 (s : Int)) (by rw [List.getElem?_append_right (by omega), hsl, hm]; simp)
                  rw [add_zero_off, Nat.zero_add] at this
                  exact this
                · have := hrow.cells (g := qb) rfl (m * 2 + 1) (.int .i64 (t : Int)) (by rw [List.getElem?_append_right (by omega), hsl, hm]; simp)
                  rw [add_zero_off, Nat.zero_add] at this
                  exact this
            obtain ⟨qb, rfl, hq1, hq2, c0, c1, cf⟩ := hview
            have hsm : mt s = true := (L.met s).2 (.inr (by simp [stkN]))
            have hsn : s < n := by have := L.lt s hsm; have := HN.out; omega
            obtain ⟨gb, go, lo, lc, rfl, hcl, hil⟩ := rows_cell H.out (castG_get (g := g) (i := s) (HN.out ▸ hsn))
            rw [List.length_map] at hcl hil
            obtain ⟨rn, hrn⟩ : ∃ rn, rn = (edges g s).length := ⟨_, rfl⟩
            rw [← hrn] at hcl hil
            have hrn2 := (ints_len hil).1
            have htl : t ≤ rn := by rw [hrn]; exact L.good.2.1
            have e1 := cell_below hcl A.bel
            have HMM := hid hm
            have HRN := hid hrn
            have HROW := hid hrow
            have HA := hid A
            have HL := hid L
            have HMI := hid hmi
            have HPOT := hid hpot
            have HIL := hid hil
            have HCL := hid hcl
            clear hm hrn hrow A L hmi hpot hil hcl hlen hsm
            go_wp2_with fail
            obtain ⟨sb, hsb⟩ : ∃ sb, sb = wr.heap.size := ⟨_, rfl⟩
            have HSB := hid hsb
            obtain ⟨Z, hZ⟩ : ∃ Z, Z = wr.alloc (.cells #[.int .i64 (s : Int), .int .i64 (t : Int)] 80) := ⟨_, rfl⟩
            rw [← hZ, ← hsb]
            have cZ : Chg [] wr Z := by rw [hZ]; exact (Chg.refl _ wr).alloc _
            have hs0 : Z.heap[sb]? = some (.cells #[.int .i64 (s : Int), .int .i64 (t : Int)] 80 (0, 0)) := by rw [hZ, hsb]; exact heap_alloc_new wr _
            have z0 : ∀ k, (Z.drewN k).cell? ⟨sb, 0, none⟩ = some (.int .i64 (s : Int)) := fun k => cell_of (w := Z) (i := 0) hs0 rfl
            have z1 : ∀ k, (Z.drewN k).cell? ⟨sb, 1, none⟩ = some (.int .i64 (t : Int)) := fun k => cell_of (w := Z) (i := 1) hs0 rfl
            have z2 : ∀ k, (Z.drewN k).cell? ⟨gb, go + s, none⟩ = some (.slice lo rn lc) := fun k => cZ.cell e1 (by simp)
            have HCZ := hid (fun k => cZ.drewN k)
            have HAZ := hid (fun k => HA.out.chg (F := []) (cZ.drewN k) (by simp))
            have HRZ := hid (fun k => (cZ.drewN k).owns HROW.out (by simp))
            have hol := order_len HL.out
            have hkl := stk_len HL.out
            have HQ1 := hid c1
            clear e1 c0 hZ hs0 cZ hsb
            by_cases htr : t = rn
            · have HTR := hid htr
              have hd : ((t : Int) == (rn : Int)) = true := by simp; omega
              have hd2 : (t = rn) = True := by rw [eq_iff_iff, iff_true]; exact htr
              have HAPP := hid (fun k => app_int (HAZ.out k).out (HAZ.out k).bel.size (by have := HN.out; omega) (s : Int))
              clear htr c1 cf
              go_wp2_with fail
              go_quiet (fail)
              obtain ⟨a, c, w2, happ, O2, ch2, _⟩ := HAPP.out nq
              have happ' : (Builtin.append_ #[24, 24] 24 #[u4, .slice (some ⟨Z.heap.size, 0, none⟩) 1 1]).run Try.prog ((Z.drewN nq).alloc (.cells #[.int .i64 (s : Int)] 3)) = .ok (.slice a (order.length + 1) c) w2 := happ
              have hpop := stk_pop (HRZ.out nq) (by rw [stkCells_length, HMM.out])
              have AZ := HAZ.out nq
              have RR := hid (show LeaveIn w g n i (potW g mt rest n) (.slice a (order.length + 1) c) (.slice (some ⟨qb, 0, none⟩) m qc) w2 from
                ⟨mt, order ++ [s], rest, ⟨own_keep AZ.met (by decide) AZ.out ch2, by simpa [natCells] using O2, AZ.bel.trans (ch2.below (fun b hb => by
                  simp only [own, Option.mem_toList] at hb
                  exact (AZ.out.lt b hb).1) AZ.bel.size)⟩, by
                  rw [← HMM.out]
                  exact ch2.owns hpop (own_far hpop AZ.out (by decide)), HL.out.pop (HTR.out.trans HRN.out), HMI.out, Nat.le_refl _⟩)
              have HP := hid (show potW g mt rest n < gk from by
                have h1 := HPOT.out
                rw [potW_top] at h1
                omega)
              clear happ O2 ch2 hpop AZ HAPP HAZ HRZ HROW
              go_wp2_with (at_builtin; refine wpList_append_run rfl (.tmp 46) (.tmp 49) 24 rfl _ _ rfl rfl happ' ?_)
              go_roundg (potW g mt rest n)
              case rel => exact RR.out
              case measure => exact HP.out
            · have htl2 : t < rn := by omega
              obtain ⟨to, hto⟩ : ∃ to, (edges g s)[t]? = some to := ⟨_, List.getElem?_eq_getElem (by have := HRN.out; omega)⟩
              obtain ⟨b3, o3, rfl, ce, x1, x2⟩ := ints_cell HIL.out (i := t) (x := (to : Int)) (by rw [List.getElem?_map, hto]; rfl)
              have hton : to < n := by have := HR.out s to (List.mem_of_getElem? hto); have := HN.out; omega
              have hd : ((t : Int) == (rn : Int)) = false := by simp; omega
              have hd2 : (t = rn) = False := by rw [eq_iff_iff, iff_false]; exact htr
              have HTO := hid hto
              have HCE := hid ce
              have z3 : ∀ k, (Z.drewN k).cell? ⟨qb, m * 2 + 1, none⟩ = some (.int .i64 (t : Int)) := fun k => (HCZ.out k).cell c1 (by simp)
              have zf : ∀ k, (Z.drewN k).frozen? ⟨qb, m * 2 + 1, none⟩ = false := fun k => by
                obtain ⟨y, hy⟩ := owns_cells (HRZ.out k) (g := qb) rfl
                exact free_of hy
              have HSQ := hid (show qb < sb from by
                have := (HROW.out.lt qb rfl).2
                have h2 := HSB.out
                omega)
              clear htr c1 cf hto ce
              go_wp2_with fail
              go_quiet (fail)
              obtain ⟨Y, hY⟩ : ∃ Y, Y = (Z.drewN nq).setCell ⟨qb, m * 2 + 1, none⟩ (.int .i64 ((t : Int) + 1)) := ⟨_, rfl⟩
              have cY : Chg [qb] (Z.drewN nq) Y := by rw [hY]; exact (Chg.refl _ _).setCell (by simp) _
              have hq80 := owns_cells (HRZ.out nq) (g := qb) rfl
              have HRY := hid (show Y.ownsRow w.heap.size 80 2 (.slice (some ⟨qb, 0, none⟩) (m + 1) qc) (m + 1) (stkCells ((s, t + 1, d) :: rest)) from by
                rw [hY, stkCells_cons]
                exact stk_set (HRZ.out nq) (by rw [stkCells_length, HMM.out]) _)
              have HAY := hid (show LvAt w g n u4 mt order Y from (HAZ.out nq).chg cY (fun b hb => by
                simp only [List.mem_singleton] at hb
                subst hb
                obtain ⟨y, hy⟩ := hq80
                exact ⟨(HRZ.out nq).lt b rfl |>.1, fun cs h => heap_ne hy h (by decide) rfl, fun cs h => heap_ne hy h (by decide) rfl⟩))
              have hsq := HSQ.out
              have y0 : ∀ k, (Y.drewN k).cell? ⟨sb, 0, none⟩ = some (.int .i64 (s : Int)) := fun k => cY.cell (z0 nq) (by simp; omega)
              have y1 : ∀ k, (Y.drewN k).cell? ⟨sb, 1, none⟩ = some (.int .i64 (t : Int)) := fun k => cY.cell (z1 nq) (by simp; omega)
              have y2 : ∀ k, (Y.drewN k).cell? ⟨gb, go + s, none⟩ = some (.slice (some ⟨b3, o3, none⟩) rn lc) := fun k => cell_below HCL.out (bdrew HAY.out.bel k)
              have y3 : ∀ k, (Y.drewN k).cell? ⟨b3, o3 + t, none⟩ = some (.int .i64 (to : Int)) := fun k => cell_below HCE.out (bdrew HAY.out.bel k)
              have y4 : ∀ k, (Y.drewN k).cell? ⟨w.heap.size, to, none⟩ = some (.bool (mt to)) := fun k => HAY.out.met.get hton
              have y5 : ∀ k, (Y.drewN k).frozen? ⟨w.heap.size, to, none⟩ = false := fun k => free_of (w := Y) HAY.out.met
              clear cY hq80
              go_wp2_with fail
              rw [← hY]
              clear hY z0 z1 z2 z3 zf HRZ HAZ hsq
              go_quiet (fail)
              have HPT := hid (show potW g mt ((s, t + 1, d) :: rest) n < gk from by
                have h1 := HPOT.out
                have h2 := HRN.out
                rw [potW_top] at h1 ⊢
                omega)
              by_cases hmt : mt to = true
              · rw [hmt] at y4
                have RR := hid (fun k => show LeaveIn w g n i (potW g mt ((s, t + 1, d) :: rest) n) u4 (.slice (some ⟨qb, 0, none⟩) (m + 1) qc) (Y.drewN k) from
                  ⟨mt, order, (s, t + 1, d) :: rest, HAY.out.chg (F := []) ((Chg.refl _ Y).drewN k) (by simp), by
                    have := HRY.out
                    rw [HMM.out] at this ⊢
                    exact this, HL.out.next HTO.out hmt, HMI.out, Nat.le_refl _⟩)
                clear hmt
                go_wp2_with fail
                go_roundg (potW g mt ((s, t + 1, d) :: rest) n)
                case rel => exact RR.out _
                case measure => exact HPT.out
              · have hmf : mt to = false := by simpa using hmt
                rw [hmf] at y4
                obtain ⟨X, hX⟩ : ∃ X, X = (Y.drewN nq).setCell ⟨w.heap.size, to, none⟩ (.bool true) := ⟨_, rfl⟩
                have cX : Chg [w.heap.size] Y X := by rw [hX]; exact ((Chg.refl _ Y).drewN nq).setCell (by simp) _
                have hRX := cX.owns HRY.out (fun b hb hm => by
                  simp only [List.mem_singleton] at hm
                  subst hm
                  obtain ⟨y, hy⟩ := owns_cells HRY.out hb
                  exact heap_ne hy HAY.out.met (by decide) rfl)
                have hAX : LvAt w g n u4 (upd mt to true) order X := ⟨by
                  rw [hX]
                  exact (show RowB (Y.drewN nq) w.heap.size n mt from HAY.out.met).set true, cX.owns HAY.out.out (fun b hb hm => by
                  simp only [List.mem_singleton] at hm
                  subst hm
                  obtain ⟨y, hy⟩ := owns_cells HAY.out.out hb
                  exact heap_ne hy HAY.out.met (by decide) rfl), HAY.out.bel.trans (cX.below (by simp) HAY.out.bel.size)⟩
                obtain ⟨a, c, w2, happ, O2, ch2⟩ := stk_push (k := to) hRX hAX.bel.size (by have := HMM.out; have := HN.out; simp only [List.length_cons] at hkl; omega)
                have LI := HL.out.into HR.out HTO.out hmf
                have hpu := unmetW_upd (g := g) hmf n
                rw [if_pos hton] at hpu
                have HP := hid (show potW g (upd mt to true) ((to, 0, order.length) :: (s, t + 1, d) :: rest) n < gk from by
                  have h1 := HPT.out
                  rw [potW_top] at h1 ⊢
                  rw [potW_top]
                  unfold potW at h1 ⊢
                  omega)
                have RR := hid (show LeaveIn w g n i (potW g (upd mt to true) ((to, 0, order.length) :: (s, t + 1, d) :: rest) n) u4 (.slice a (m + 1 + 1) c) w2 from
                  ⟨upd mt to true, order, _, hAX.chg ch2 (fun b hb => by
                    simp only [own, Option.mem_toList] at hb
                    obtain ⟨y, hy⟩ := owns_cells hRX hb
                    exact ⟨(hRX.lt b hb).1, fun cs h => heap_ne hy h (by decide) rfl, fun cs h => heap_ne hy h (by decide) rfl⟩), by
                    rw [stkCells_cons]
                    have e : ((to, 0, order.length) :: (s, t + 1, d) :: rest).length = m + 1 + 1 := by rw [HMM.out]; rfl
                    rw [e]
                    exact O2, LI, fun x hx => by
                    by_cases e : x = to
                    · subst e; exact upd_same _ _ _
                    · rw [upd_far _ _ e]; exact HMI.out x hx, Nat.le_refl _⟩)
                have hsx : X.heap.size = Y.heap.size := by rw [hX]; simp
                rw [hsx, hX] at happ
                clear hmt hmf hX cX hRX hAX O2 ch2 LI hpu hsx
                go_wp2_with (at_builtin; refine wpList_append_run rfl (.tmp 83) (.tmp 86) 81 rfl _ _ rfl rfl happ ?_)
                go_roundg (potW g (upd mt to true) ((to, 0, order.length) :: (s, t + 1, d) :: rest) n)
                case rel => exact RR.out
                case measure => exact HP.out
    · have RR := hid (show LeaveEnd w g (.returned u4) wr from ⟨u4, order, rfl, A.out, L.all (fun x hx => hmi x (by have := HN.out; omega)), A.bel⟩)
      clear A L hmi
      go_wp2_with fail
      go_ret
      exact RR.out

end Go.Proofs.Ytagfgbmaibadjaa
