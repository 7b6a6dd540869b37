/- Contract of the law's own leads: the walk. -/
import Derived.Test.YtagfgbmaibadjaaIsLead
namespace Go.Proofs.Ytagfgbmaibadjaa
open Go.RowKit Go.Lib

def rowsTo (n i : Nat) (rb : Nat → Nat) (p : Nat) : Value := if p < i then .slice (some ⟨rb p, 0, none⟩) n n else .slice none 0 0
theorem rowsTo_upd {n i s : Nat} {rb : Nat → Nat} : upd (rowsTo n i rb) i (.slice (some ⟨s, 0, none⟩) n n) = rowsTo n (i + 1) (upd rb i s) := by
  funext p
  unfold upd rowsTo
  by_cases h : p = i
  · subst h; simp
  · by_cases h2 : p < i
    · simp [h, h2, show p < i + 1 by omega]
    · simp [h, h2, show ¬ p < i + 1 by omega]

def LdRel (w : World) (g : Gr) (n : Nat) (iv : Value) (wr : World) : Prop :=
  ∃ (i : Nat) (rb : Nat → Nat), iv = .int .i64 (i : Int) ∧ i ≤ n ∧ RowX wr w.heap.size n (rowsTo n i rb) ∧ (∀ p, p < i → RowB wr (rb p) n (reachB g p) ∧ w.heap.size ≤ rb p) ∧ Below w.heap.size w wr
structure LdSt (w : World) (g : Gr) (n i bk : Nat) (wv : Value) (f : Nat → Bool) (ws : List Nat) (rb : Nat → Nat) (wr : World) : Prop where
  own : wr.ownsRow w.heap.size 3 1 wv ws.length (natCells ws)
  rx : RowX wr w.heap.size n (rowsTo n (i + 1) rb)
  rbi : rb i = bk
  old : ∀ p, p < i → RowB wr (rb p) n (reachB g p) ∧ w.heap.size ≤ rb p ∧ rb p ≠ bk
  cur : RowB wr bk n f
  hbk : w.heap.size ≤ bk
  dfs : Dfs g i f ws
  lt : ∀ x ∈ ws, x < n
  len : ws.length + 9 * cntF f n ≤ 9 * n + 8
  bel : Below w.heap.size w wr
def LdIn (w : World) (g : Gr) (n i bk : Nat) (wv : Value) (wr : World) : Prop := ∃ f ws rb, LdSt w g n i bk wv f ws rb wr
def LeadsEnd (w : World) (g : Gr) (n : Nat) (e : Ending) (w' : World) : Prop :=
  ∃ rb : Nat → Nat, e = .returned (.slice (some ⟨w.heap.size, 0, none⟩) n n) ∧ RowX w' w.heap.size n (fun p => .slice (some ⟨rb p, 0, none⟩) n n) ∧ (∀ p, p < n → RowB w' (rb p) n (reachB g p)) ∧ Below w.heap.size w w'

theorem meas9 {a b A B l m : Nat} (h1 : a = A) (h2 : b = B) (h : 9 * A + l < 9 * B + m) : 9 * a + l < 9 * b + m := by omega
theorem cntF_none (n : Nat) : cntF (fun _ => false) n = n := by
  unfold cntF
  simp

/-- a block of bools, or of rows of bools, stands behind a step that writes a row of ints of the law's own -/
theorem own_keep {w w2 : World} {b B m : Nat} {t : TypeId} {cs : Array Value} {v : Value} {xs : List Value} (hr : w.heap[b]? = some (.cells cs t (0, 0))) (ht : 3 ≠ t) (ho : w.ownsRow B 3 1 v m xs) (c : Chg (own v) w w2) : w2.heap[b]? = some (.cells cs t (0, 0)) :=
  c.heap hr (fun hm => by
    simp only [Go.Proofs.Ytagfgbmaibadjaa.own, Option.mem_toList] at hm
    obtain ⟨y, hy⟩ := owns_cells ho hm
    exact heap_ne hy hr ht rfl)

set_option maxRecDepth 20000 in
set_option maxHeartbeats 2000000 in
theorem leads_any {w : World} {gb n : Nat} {g : Gr} (h : RowsT w (.slice (some ⟨gb, 0, none⟩) n n) (castG g)) (hn : n = g.length) (hn2 : n ≤ 2000) (R : RightG g) (h8 : ∀ i, (edges g i).length ≤ 8) :
    Calls Try.prog 18 #[.slice (some ⟨gb, 0, none⟩) n n] w (LeadsEnd w g n) := by
  have H := hid h
  have HN := hid hn
  have HR := hid R
  have H8 := hid h8
  have hmk := make_boolrows n (by omega)
  have hmk2 := make_bools n (by omega)
  have r0 : RowX (w.alloc (.cells (List.replicate n (Value.slice none 0 0)).toArray 37)) w.heap.size n (rowsTo n 0 (fun _ => 0)) := by
    have e := heap_alloc_new w (.cells (List.replicate n (Value.slice none 0 0)).toArray 37)
    unfold RowX
    rw [e]
    have : rowsTo n 0 (fun _ => 0) = fun _ => .slice none 0 0 := by funext p; simp [rowsTo]
    rw [this, List.map_const']; simp
  have R0 := hid (show LdRel w g n (.int .i64 0) (w.alloc (.cells (List.replicate n (Value.slice none 0 0)).toArray 37)) from ⟨0, _, rfl, by omega, r0, fun p hp => by omega, (Below.refl _ w).alloc (Nat.le_refl _) _⟩)
  simp only [List.toArray_replicate] at R0
  clear h hn R h8 r0
  go_enter Try.func18, Try.ntmps18
  go_wp2_with fail
  clear hmk
  go_loopw [4] (fun iv y => LdRel w g n iv y) (fun iv _ => n - (intOf iv).toNat)
  case atStart => exact R0.out
  case round =>
    clear R0
    obtain ⟨i, rb, rfl, hi, hr, hold, hb⟩ := hrel
    by_cases hgo : i < n
    · obtain ⟨b1, o1, lo, lc, e1, hcl, hil⟩ := rowsT_cell H.out (castG_get (g := g) (i := i) (HN.out ▸ hgo))
      injection e1 with e1
      injection e1 with e1 e1'
      subst e1 e1'
      rw [Nat.zero_add, List.length_map] at hcl
      rw [List.length_map] at hil
      obtain ⟨rn, hrn⟩ : ∃ rn, rn = (edges g i).length := ⟨_, rfl⟩
      rw [← hrn] at hcl hil
      have hrn8 : rn ≤ 8 := by rw [hrn]; exact H8.out i
      have q1 := hr.get hgo
      have q2 := hr.free (i := i)
      have hs := hb.size
      obtain ⟨GO, hGO⟩ : ∃ GO, GO = Obj.cells (Array.replicate n (Value.bool false)) 4 (0, 0) := ⟨_, rfl⟩
      have hmk3 : ∀ u : World, (Instr.makeSlice 37 (.int .i64 (n : Int)) (.int .i64 (n : Int))).run Try.prog u = .ok (.slice (some ⟨u.heap.size, 0, none⟩) n n) (u.alloc GO) := fun u => by
        rw [hGO, ← List.toArray_replicate]
        exact hmk2 u
      have q3 := ((Chg.refl [] wr).alloc GO).cell q1 (by simp)
      have q4 : (wr.alloc GO).frozen? ⟨w.heap.size, i, none⟩ = false := free_of (heap_alloc_keep hr GO)
      obtain ⟨z, hz⟩ : ∃ z, z = (wr.alloc GO).setCell ⟨w.heap.size, i, none⟩ (.slice (some ⟨wr.heap.size, 0, none⟩) n n) := ⟨_, rfl⟩
      have hbz : Below w.heap.size w z := by rw [hz]; exact (hb.alloc hs GO).setCell (Nat.le_refl _) _
      have hrz : RowX z w.heap.size n (rowsTo n (i + 1) (upd rb i wr.heap.size)) := by
        have h1 : RowX (wr.alloc GO) w.heap.size n (rowsTo n i rb) := heap_alloc_keep hr GO
        have h2 := h1.set (k := i) (.slice (some ⟨wr.heap.size, 0, none⟩) n n)
        rw [rowsTo_upd] at h2
        rw [hz]; exact h2
      have ob_ne : w.heap.size ≠ wr.heap.size := by have := heap_lt hr; omega
      have hcz : RowB z wr.heap.size n (fun _ => false) := by
        have h1 : RowB (wr.alloc GO) wr.heap.size n (fun _ => false) := by
          have e := heap_alloc_new wr GO
          unfold RowB
          rw [e, hGO, List.map_const']; simp
        rw [hz]
        exact h1.chg ((Chg.refl [w.heap.size] (wr.alloc GO)).setCell (p := ⟨w.heap.size, i, none⟩) (by simp) _) (by simp only [List.mem_singleton]; exact ob_ne.symm)
      have hoz : ∀ p, p < i → RowB z (rb p) n (reachB g p) ∧ w.heap.size ≤ rb p ∧ rb p ≠ wr.heap.size := fun p hp => by
        obtain ⟨h1, h2⟩ := hold p hp
        have h3 : RowB (wr.alloc GO) (rb p) n (reachB g p) := heap_alloc_keep h1 GO
        refine ⟨?_, h2, by have := heap_lt h1; omega⟩
        rw [hz]
        refine h3.chg ((Chg.refl [w.heap.size] (wr.alloc GO)).setCell (p := ⟨w.heap.size, i, none⟩) (by simp) _) ?_
        simp only [List.mem_singleton]
        exact heap_ne h1 hr (by decide)
      have tz := hil.below hbz
      obtain ⟨v5, w5, hcp, O5, hb5⟩ := copy_ints tz (by rw [List.length_map, ← hrn]; omega)
      have hcz1 := (hbz.cell (World.block_lt_of_cell? _ _ hcl)).trans hcl
      have hlz : w.heap.size ≤ z.heap.size := hbz.size
      have bk := wr.heap.size
      have RI := hid (show LdIn w g n i wr.heap.size v5 w5 from ⟨fun _ => false, edges g i, upd rb i wr.heap.size, {
        own := by
          have h1 := ownsRow_lower O5 hlz
          rw [List.length_map, List.map_map] at h1
          exact h1
        rx := hrz.below hb5
        rbi := upd_same _ _ _
        old := fun p hp => by
          rw [upd_far _ _ (by omega)]
          obtain ⟨h1, h2, h3⟩ := hoz p hp
          exact ⟨h1.below hb5, h2, h3⟩
        cur := hcz.below hb5
        hbk := hs
        dfs := dfs_start g i
        lt := fun x hx => by have := HR.out i x hx; have := HN.out; omega
        len := by rw [cntF_none]; have := H8.out i; omega
        bel := hbz.trans (below_low0 hb5 hlz) }⟩)
      rw [hz] at hcp hcz1
      have HIL := hid hil
      have HCL := hid hcl
      clear hr hold hb hcl hil hrn hGO hz hbz hrz hcz hoz tz O5 hb5 hlz ob_ne hmk2 bk
      go_wp2_with (at_builtin; refine wpList_append_run rfl (.const (.slice none 0 0)) (.tmp 25) 24 rfl _ _ rfl rfl hcp ?_)
      clear hcp hcz1 q1 q2 q3 q4 hmk3
      obtain ⟨bk, hbk0⟩ : ∃ bk, bk = wr.heap.size := ⟨_, rfl⟩
      rw [← hbk0] at RI
      clear hbk0
      go_loopw [5] (fun wv y => LdIn w g n i bk wv y) (fun wv y => 9 * unm y bk n + sliceLen wv)
      case atStart => exact RI.out
      case round =>
        clear RI
        obtain ⟨f, ws, rb, S⟩ := hrel
        have gx : wr.cell? ⟨w.heap.size, i, none⟩ = some (.slice (some ⟨bk, 0, none⟩) n n) := by
          rw [S.rx.get hgo]
          simp [rowsTo, S.rbi]
        rcases List.eq_nil_or_concat ws with rfl | ⟨ws', x, hws⟩
        · obtain ⟨qa, qc, rfl, _⟩ := ownsRow_view S.own
          have RR := hid (show LdRel w g n (.int .i64 ((i : Int) + 1)) wr from ⟨i + 1, rb, by simp, by omega, S.rx, fun p hp => by
            by_cases e : p = i
            · subst e
              have := S.cur
              rw [S.dfs.fin] at this
              rw [S.rbi]
              exact ⟨this, S.hbk⟩
            · exact ⟨(S.old p (by omega)).1, (S.old p (by omega)).2.1⟩, S.bel⟩)
          simp only [List.length_nil]
          clear S gx
          go_wp2_with fail
          go_roundw
          case rel => exact RR.out
          case measure => simp [intOf]; omega
        · rw [List.concat_eq_append] at hws
          subst hws
          have hlen : (ws' ++ [x]).length = ws'.length + 1 := by simp
          obtain ⟨m, hm⟩ : ∃ m, m = ws'.length := ⟨_, rfl⟩
          obtain ⟨qa, qc, rfl, _⟩ := ownsRow_view S.own
          have hown := S.own
          have HL := hid hlen
          rw [hlen, ← hm] at hown
          have hview : ∃ qb, qa = some ⟨qb, 0, none⟩ ∧ m + 1 ≤ qc ∧ qc ≤ 9223372036854775807 ∧ wr.cell? ⟨qb, m, none⟩ = some (.int .i64 (x : Int)) := by
            rcases hown.2 with ⟨_, h0⟩ | ⟨qb, cap, cur, e, k1, k2, k3, k4, _⟩
            · omega
            · unfold maxLen at k4
              injection e with e1 e2 e3
              subst e1 e3
              refine ⟨qb, rfl, k3, k4, ?_⟩
              have := hown.cells (g := qb) rfl m (.int .i64 (x : Int)) (by simp [natCells, hm])
              rw [add_zero_off, Nat.zero_add] at this
              exact this
          obtain ⟨qb, rfl, hq1, hq2, gq⟩ := hview
          have hxn := S.lt x (by simp)
          have gb2 := S.cur.get hxn
          have gf2 := S.cur.free (i := x)
          have hnc : natCells (ws' ++ [x]) = natCells ws' ++ [.int .i64 (x : Int)] := by simp [natCells]
          rw [hnc] at hown
          have hpop := own_pop hown (by simp [natCells, hm])
          rw [hlen, ← hm]
          have hm9 : m ≤ 9 * n + 8 := by have := S.len; rw [hlen, ← hm] at this; omega
          by_cases hfx : f x = true
          · rw [hfx] at gb2
            have RR := hid (show LdIn w g n i bk (.slice (some ⟨qb, 0, none⟩) m qc) wr from ⟨f, ws', rb, {
              own := by rw [← hm]; exact hpop
              rx := S.rx
              rbi := S.rbi
              old := S.old
              cur := S.cur
              hbk := S.hbk
              dfs := S.dfs.seen hfx
              lt := fun y hy => S.lt y (by simp [hy])
              len := by have := S.len; rw [hlen] at this; omega
              bel := S.bel }⟩)
            have HU := hid (unm_of S.cur)
            clear S hlen hm hown hpop hnc hfx
            go_wp2_with fail
            go_roundw
            case rel => exact RR.out
            case measure => exact meas9 HU.out HU.out (by simp [sliceLen])
          · have hfx' : f x = false := by simpa using hfx
            rw [hfx'] at gb2
            obtain ⟨b3, o3, lo3, lc3, e3, hcl3, hil3⟩ := rowsT_cell H.out (castG_get (g := g) (i := x) (HN.out ▸ hxn))
            injection e3 with e3
            injection e3 with e3 e3'
            subst e3 e3'
            rw [Nat.zero_add, List.length_map] at hcl3
            rw [List.length_map] at hil3
            obtain ⟨rn3, hrn3⟩ : ∃ rn3, rn3 = (edges g x).length := ⟨_, rfl⟩
            rw [← hrn3] at hcl3 hil3
            obtain ⟨z, hz⟩ : ∃ z, z = wr.setCell ⟨bk, x, none⟩ (.bool true) := ⟨_, rfl⟩
            have hbz : Below w.heap.size w z := by rw [hz]; exact S.bel.setCell S.hbk _
            have cz : Chg [bk] wr z := by rw [hz]; exact (Chg.refl _ wr).setCell (by simp) _
            have hoz : z.ownsRow w.heap.size 3 1 (.slice (some ⟨qb, 0, none⟩) m qc) m (natCells ws') := cz.owns hpop (fun b hb hmem => by
              simp only [List.mem_singleton] at hmem
              subst hmem
              obtain ⟨y, hy⟩ := owns_cells hpop hb
              exact heap_ne hy S.cur (by decide) rfl)
            have hcz : RowB z bk n (upd f x true) := by rw [hz]; exact S.cur.set true
            have hrz : RowX z w.heap.size n (rowsTo n (i + 1) rb) := S.rx.chg cz (by simp only [List.mem_singleton]; exact heap_ne S.rx S.cur (by decide))
            have hpz : ∀ p, p < i → RowB z (rb p) n (reachB g p) := fun p hp => (S.old p hp).1.chg cz (by simp only [List.mem_singleton]; exact (S.old p hp).2.2)
            have tz := hil3.below hbz
            have hc3z := (hbz.cell (World.block_lt_of_cell? _ _ hcl3)).trans hcl3
            obtain ⟨v', w3, happ, O3, ch3⟩ := app_row hoz hbz.size (by omega) tz (by rw [← hrn3]; have := H8.out x; omega)
            obtain ⟨va, vc, rfl, _⟩ := ownsRow_view O3
            have hcnt := cntF_upd hfx' n
            rw [if_pos hxn] at hcnt
            have R3 : LdSt w g n i bk (.slice va (m + (edges g x).length) vc) (upd f x true) (ws' ++ edges g x) rb w3 := {
              own := by
                rw [List.length_append, ← hm]
                have : natCells (ws' ++ edges g x) = natCells ws' ++ natCells (edges g x) := by simp [natCells]
                rw [this]
                exact O3
              rx := own_keep hrz (by decide) hoz ch3
              rbi := S.rbi
              old := fun p hp => ⟨own_keep (hpz p hp) (by decide) hoz ch3, (S.old p hp).2.1, (S.old p hp).2.2⟩
              cur := own_keep hcz (by decide) hoz ch3
              hbk := S.hbk
              dfs := S.dfs.mark
              lt := fun y hy => by
                rw [List.mem_append] at hy
                rcases hy with hy | hy
                · exact S.lt y (by simp [hy])
                · have := HR.out x y hy; have := HN.out; omega
              len := by
                have h1 := S.len
                have h2 := H8.out x
                rw [hlen] at h1
                rw [List.length_append]
                omega
              bel := hbz.trans (ch3.below (fun b hb => by
                simp only [Go.Proofs.Ytagfgbmaibadjaa.own, Option.mem_toList] at hb
                exact (hoz.lt b hb).1) hbz.size) }
            have HU := hid (unm_of S.cur)
            have HU3 := hid (unm_of R3.cur)
            have HC := hid hcnt
            have hr8 : rn3 ≤ 8 := by rw [hrn3]; exact H8.out x
            rw [← hrn3] at happ R3
            have RR := hid (show LdIn w g n i bk (.slice va (m + rn3) vc) w3 from ⟨_, _, rb, R3⟩)
            rw [hz] at happ hc3z
            clear S R3 hlen hm hown hpop hnc hfx hfx' hz hbz cz hoz hcz hrz hpz tz O3 ch3 hcnt hcl3 hil3 hrn3
            go_wp2_with (at_builtin; refine wpList_append_run rfl (.tmp 55) (.tmp 59) 24 rfl _ _ rfl rfl happ ?_)
            go_roundw
            case rel => exact RR.out
            case measure => exact meas9 HU3.out HU.out (by have := HC.out; simp [sliceLen]; omega)
    · have hin : i = n := by omega
      have RR := hid (show LeadsEnd w g n (.returned (.slice (some ⟨w.heap.size, 0, none⟩) n n)) wr from ⟨rb, rfl, by
        have e : wr.heap[w.heap.size]? = some (.cells ((List.range n).map (rowsTo n i rb)).toArray 37 (0, 0)) := hr
        unfold RowX
        rw [e]
        congr 3
        refine List.map_congr_left (fun p hp => ?_)
        simp only [List.mem_range] at hp
        unfold rowsTo
        rw [if_pos (by omega)], fun p hp => (hold p (by omega)).1, hb⟩)
      clear hr hold hb
      go_wp2_with fail
      go_ret
      exact RR.out

end Go.Proofs.Ytagfgbmaibadjaa
