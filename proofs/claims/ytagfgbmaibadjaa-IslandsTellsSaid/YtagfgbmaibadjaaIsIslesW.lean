/- Contract of the document's own isles: of each node the number of its island. -/
import Derived.Test.YtagfgbmaibadjaaIsLeaveW
import Derived.Test.YtagfgbmaibadjaaIsBack
import Derived.Test.YtagfgbmaibadjaaIsIslesP
import Derived.Test.YtagfgbmaibadjaaIsApartP
import Derived.Outline
namespace Go.Proofs.Ytagfgbmaibadjaa
open Go.RowKit Go.Lib

theorem islI_upd (c : Nat → Option Nat) (k v : Nat) : upd (islI c) k (v : Int) = islI (upd c k (some v)) := by
  funext i
  unfold upd islI
  by_cases h : i = k
  · subst h; simp
  · simp [h]
def setN (c : Nat → Option Nat) (x : Nat) : Bool := (c x).isSome
theorem setN_upd {c : Nat → Option Nat} {k v : Nat} : setN (upd c k (some v)) = upd (setN c) k true := by
  funext i
  unfold setN upd
  by_cases h : i = k
  · subst h; simp
  · simp [h]
theorem Order.length {g : Gr} {order : List Nat} (O : Order g order) : order.length = g.length := by
  have h1 := pigeon0 g.length order O.nd (fun x hx => (O.mem x).1 hx)
  have h2 := sub_len (List.range g.length) order List.nodup_range (fun x hx => (O.mem x).2 (by simpa using hx))
  rw [List.length_range] at h2
  omega

theorem cntF_le (f : Nat → Bool) (n : Nat) : cntF f n ≤ n := by
  unfold cntF
  have := List.countP_le_length (p := fun x => !f x) (l := List.range n)
  simpa using this
def IslFill (W : World) (n : Nat) (iv : Value) (wr : World) : Prop :=
  ∃ i : Nat, iv = .int .i64 (i : Int) ∧ i ≤ n ∧ RowF wr W.heap.size n (fun j => if j < i then -1 else 0) ∧ Below W.heap.size W wr
def IslRel (W : World) (g : Gr) (order : List Nat) (n : Nat) (nv iv : Value) (wr : World) : Prop :=
  ∃ (p m : Nat) (z : Int) (c : Nat → Option Nat), nv = .int .i64 (m : Int) ∧ iv = .int .i64 z ∧ z = (p : Int) - 1 ∧ m + p ≤ n ∧ RowF wr W.heap.size n (islI c) ∧ Ks g order p c m ∧ Below W.heap.size W wr
structure WaitAt (W : World) (g : Gr) (order : List Nat) (n p r d m : Nat) (c0 c : Nat → Option Nat) (T : Nat → Nat → Prop) (wv : Value) (ws : List Nat) (wr : World) : Prop where
  own : wr.ownsRow (W.heap.size + 1) 3 1 wv ws.length (natCells ws)
  row : RowF wr W.heap.size n (islI c)
  kin : Kin g order p r d c0 m c T
  ws : ∀ x ∈ ws, c x = some m ∧ x < n
  bel : Below W.heap.size W wr
def WaitIn (W : World) (g : Gr) (order : List Nat) (n p r d m : Nat) (c0 : Nat → Option Nat) (gk : Nat) (wv : Value) (wr : World) : Prop :=
  ∃ (c : Nat → Option Nat) (ws : List Nat), WaitAt W g order n p r d m c0 c (fun _ x => x ∈ ws) wv ws wr ∧ 2 * cntF (setN c) n + ws.length ≤ gk ∧ gk ≤ 100000
def WaitK (W : World) (g : Gr) (order : List Nat) (n p r d m : Nat) (c0 : Nat → Option Nat) (K x : Nat) (wv kv : Value) (wr : World) : Prop :=
  ∃ (c : Nat → Option Nat) (ws : List Nat) (k : Nat), kv = .int .i64 (k : Int) ∧ k ≤ (backOf g x).length ∧ WaitAt W g order n p r d m c0 c (fun u y => y ∈ ws ∨ (y = x ∧ u ∈ (backOf g x).drop k)) wv ws wr ∧ c x = some m ∧ 2 * cntF (setN c) n + ws.length ≤ K
def IslesEnd (w : World) (g : Gr) (n : Nat) (e : Ending) (w' : World) : Prop :=
  ∃ (fb m : Nat) (c : Nat → Option Nat) (order : List Nat), e = .returned (.tuple #[.slice (some ⟨fb, 0, none⟩) n n, .int .i64 (m : Int)]) ∧ RowF w' fb n (islI c) ∧ Order g order ∧ Ks g order 0 c m ∧ m ≤ n ∧ w.heap.size ≤ fb ∧ Below w.heap.size w w'

set_option maxRecDepth 20000 in
set_option maxHeartbeats 4000000 in
theorem isles_any {w : World} {v : Value} {g : Gr} {n M : Nat} (h : RowsIn w v (castG g)) (hn : n = g.length) (hn2 : n ≤ 2000) (R : RightG g) (hM : ∀ k, (edges g k).length ≤ M) (hM2 : (n + 1) * M ≤ 1000000) : Calls Try.prog 29 #[v] w (IslesEnd w g n) := by
  have HLV := hid (leave_any h hn hn2 R hM hM2)
  have HBK := hid (fun (y : World) (hy : Below w.heap.size w y) => back_any (h.below hy) hn hn2 R hM hM2)
  obtain ⟨ao, gc, rfl, _⟩ := rows_view h
  rw [castG_length, ← hn] at HLV HBK ⊢
  have HN := hid hn
  have HR := hid R
  have hmk := make_ints n (by omega)
  clear h hn R hM hM2
  go_enter Try.func29, Try.ntmps29
  go_wp2_with fail
  refine HLV.out.mono ?_
  rintro e w1 ⟨vo, order, rfl, O1, OR, hb1⟩
  have HO := hid OR
  have hon : order.length = n := by rw [OR.length]; exact HN.out.symm
  rw [hon] at O1
  obtain ⟨oa, oc, rfl, hno⟩ := ownsRow_view O1
  have HO1 := hid O1
  have HON := hid hon
  clear O1 OR hon
  go_wp2_with fail
  refine (HBK.out w1 hb1).mono ?_
  rintro e w2 ⟨rfl, r2, hb2, _⟩
  obtain ⟨rb, hrb⟩ : ∃ rb, rb = w1.heap.size := ⟨_, rfl⟩
  rw [← hrb] at r2 ⊢
  have HR2 := hid r2
  have HO2 := hid ((Chg.of_below (F := []) hb2).owns HO1.out (by simp))
  have HBW := hid (hb1.trans (below_low0 hb2 hb1.size))
  have f0 : RowF (w2.alloc (.cells (List.replicate n (Value.int .i64 0)).toArray 3)) w2.heap.size n (fun j => if j < 0 then -1 else 0) := by
    have e := heap_alloc_new w2 (.cells (List.replicate n (Value.int .i64 0)).toArray 3)
    unfold RowF
    rw [e]
    have : (fun j => Value.int .i64 (if j < 0 then -1 else 0)) = fun _ => Value.int .i64 0 := by funext j; rfl
    rw [this, List.map_const']; simp
  have F0 := hid (show IslFill w2 n (.int .i64 0) (w2.alloc (.cells (List.replicate n (Value.int .i64 0)).toArray 3)) from ⟨0, rfl, by omega, f0, (Below.refl _ w2).alloc (Nat.le_refl _) _⟩)
  simp only [List.toArray_replicate] at F0
  clear f0 hrb r2 hb1 hb2 HO1
  go_wp2_with fail
  clear hmk
  go_loopw [7] (fun iv y => IslFill w2 n iv y) (fun iv _ => n - (intOf iv).toNat)
  case atStart => exact F0.out
  case round =>
    clear F0
    obtain ⟨i, rfl, hi, hr, hb⟩ := hrel
    by_cases hgo : i < n
    · have q1 := hr.get hgo
      have q2 := hr.free (i := i)
      have RR := hid (show IslFill w2 n (.int .i64 ((i : Int) + 1)) (wr.setCell ⟨w2.heap.size, i, none⟩ (.int .i64 (-1))) from ⟨i + 1, by simp, by omega, by
        have := hr.set (k := i) (-1)
        rw [fill_upd] at this
        exact this, hb.setCell (Nat.le_refl _) _⟩)
      clear hr hb
      go_wp2_with fail
      go_roundw
      case rel => exact RR.out
      case measure => simp [intOf]; omega
    · have hin : i = n := by omega
      have P0 := hid (show IslRel w2 g order n (.int .i64 0) (.int .i64 ((n : Int) - 1)) wr from ⟨n, 0, _, fun _ => none, rfl, rfl, rfl, by omega, by
        have e : wr.heap[w2.heap.size]? = some (.cells ((List.range n).map fun j => Value.int .i64 (if j < i then -1 else 0)).toArray 3 (0, 0)) := hr
        unfold RowF
        rw [e]
        congr 3
        refine List.map_congr_left (fun j hj => ?_)
        simp only [List.mem_range] at hj
        rw [if_pos (by omega)]
        rfl, by rw [← HON.out]; exact ks_start g order, hb⟩)
      clear hr hb hin
      go_wp2_with fail
      go_loopw [8, 9] (fun nv iv y => IslRel w2 g order n nv iv y) (fun _ iv _ => (intOf iv + 1).toNat)
      case atStart => exact P0.out
      case round =>
        clear P0
        obtain ⟨p, m, z, c, rfl, rfl, hz, hmp, hr, K, hb⟩ := hrel
        by_cases hp0 : p = 0
        · have hzm : z = -1 := by omega
          subst hzm
          have RR := hid (show IslesEnd w g n (.returned (.tuple #[.slice (some ⟨w2.heap.size, 0, none⟩) n n, .int .i64 (m : Int)])) wr from
            ⟨_, m, c, order, rfl, hr, HO.out, hp0 ▸ K, by omega, HBW.out.size, HBW.out.trans (below_low0 hb HBW.out.size)⟩)
          clear hr K hb hz
          go_wp2_with fail
          go_ret2
          exact RR.out
        · obtain ⟨q, rfl⟩ : ∃ q, p = q + 1 := ⟨p - 1, by omega⟩
          obtain rfl : z = (q : Int) := by omega
          obtain ⟨r, hr1⟩ : ∃ r, order[q]? = some r := ⟨_, List.getElem?_eq_getElem (by have := HON.out; omega)⟩
          have hrn : r < n := by have := (HO.out.mem r).1 (List.mem_of_getElem? hr1); have := HN.out; omega
          have hvo : ∃ ob, oa = some ⟨ob, 0, none⟩ ∧ w2.cell? ⟨ob, q, none⟩ = some (.int .i64 (r : Int)) := by
            rcases HO2.out.2 with ⟨_, h0⟩ | ⟨ob, cap, cur, e, k1, k2, k3, k4, _⟩
            · omega
            · injection e with e1 e2 e3
              subst e1
              refine ⟨ob, rfl, ?_⟩
              have := HO2.out.cells (g := ob) rfl q (.int .i64 (r : Int)) (by simp [natCells, hr1])
              rw [add_zero_off, Nat.zero_add] at this
              exact this
          obtain ⟨ob, rfl, co⟩ := hvo
          have HCO := hid co
          have c1 := cell_below co hb
          have g1 := hr.get hrn
          have g2 := hr.free (i := r)
          have HQR := hid hr1
          have HZ := hid hz
          clear co hz
          cases hcr : c r with
          | some v =>
            have hv : islI c r = (v : Int) := by simp [islI, hcr]
            rw [hv] at g1
            have RR := hid (show IslRel w2 g order n (.int .i64 (m : Int)) (.int .i64 ((q : Int) - 1)) wr from ⟨q, m, _, c, rfl, rfl, rfl, by omega, hr, K.skip hr1 (by rw [hcr]; simp), hb⟩)
            clear hr K hb hv hcr hr1
            go_wp2_with fail
            go_roundw
            case rel => exact RR.out
            case measure => simp [intOf]
          | none =>
            have hv : islI c r = -1 := by simp [islI, hcr]
            rw [hv] at g1
            obtain ⟨d, d1, d2, d3, KB⟩ := K.begin HO.out hr1 hcr
            obtain ⟨X, hX⟩ : ∃ X, X = wr.setCell ⟨w2.heap.size, r, none⟩ (.int .i64 (m : Int)) := ⟨_, rfl⟩
            have hsx : X.heap.size = wr.heap.size := by rw [hX]; simp
            have hrX : RowF X w2.heap.size n (islI (upd c r (some m))) := by
              rw [hX, ← islI_upd]
              exact hr.set (m : Int)
            have hbX : Below w2.heap.size w2 X := by rw [hX]; exact hb.setCell (Nat.le_refl _) _
            have hfl := hr.lt
            have HW0 := hid (show WaitIn w2 g order n q r d m c (2 * cntF (setN (upd c r (some m))) n + 1) (.slice (some ⟨wr.heap.size, 0, none⟩) 1 1) (X.alloc (.cells #[.int .i64 (r : Int)] 3)) from
              ⟨_, [r], ⟨by
                have e := heap_alloc_new X (.cells #[.int .i64 (r : Int)] 3)
                rw [hsx] at e
                exact ⟨rfl, .inr ⟨wr.heap.size, 1, _, rfl, hfl, e, Nat.le_refl _, by simp [maxLen], rfl, rfl⟩⟩, heap_alloc_keep hrX _, KB.turn (fun u x _ _ hx => .inr (by simp [hx])), fun x hx => by
                simp only [List.mem_singleton] at hx
                subst hx
                exact ⟨upd_same _ _ _, hrn⟩, hbX.alloc hbX.size _⟩, Nat.le_refl _, by have := cntF_le (setN (upd c r (some m))) n; omega⟩)
            have cX1 : X.cell? ⟨ob, q, none⟩ = some (.int .i64 (r : Int)) := cell_below HCO.out hbX
            have HK := hid K
            have HD2 := hid d2
            have HD3 := hid d3
            rw [hX] at HW0 cX1
            obtain ⟨G0, hG0⟩ : ∃ G0, G0 = 2 * cntF (setN (upd c r (some m))) n + 1 := ⟨_, rfl⟩
            rw [← hG0] at HW0
            clear hr K hb hv hcr hr1 KB hX hsx hrX hbX hfl d2 d3 hG0
            go_wp2_with fail
            clear cX1 c1 g1 g2
            go_loopg [10] G0 (fun gk wv y => WaitIn w2 g order n q r d m c gk wv y)
            case atStart => exact HW0.out
            case round =>
              clear HW0
              obtain ⟨c', ws, A, hpot, hgk⟩ := hrel
              rcases List.eq_nil_or_concat ws with rfl | ⟨ws', x, hws⟩
              · obtain ⟨qa, qc, rfl, _⟩ := ownsRow_view A.own
                simp only [List.length_nil]
                have RR := hid (show IslRel w2 g order n (.int .i64 ((m : Int) + 1)) (.int .i64 ((q : Int) - 1)) wr from ⟨q, m + 1, _, c', by simp, rfl, rfl, by omega, A.row, (A.kin.turn (fun u x _ _ hx => by simp at hx)).done HK.out HQR.out (by have := HN.out; omega) HR.out, A.bel⟩)
                clear A hpot hgk
                go_wp2_with fail
                go_roundw
                case rel => exact RR.out
                case measure => simp [intOf]
              · rw [List.concat_eq_append] at hws
                subst hws
                have hlen : (ws' ++ [x]).length = ws'.length + 1 := by simp
                obtain ⟨k1, hk1⟩ : ∃ k1, k1 = ws'.length := ⟨_, rfl⟩
                obtain ⟨qa, qc, rfl, _⟩ := ownsRow_view A.own
                have hown := A.own
                rw [hlen, ← hk1] at hown
                have hview : ∃ qb, qa = some ⟨qb, 0, none⟩ ∧ k1 + 1 ≤ qc ∧ qc ≤ 9223372036854775807 ∧ wr.cell? ⟨qb, k1, none⟩ = some (.int .i64 (x : Int)) := by
                  rcases hown.2 with ⟨_, h0⟩ | ⟨qb, cap, cur, e, k1', k2, k3, k4, _⟩
                  · omega
                  · unfold maxLen at k4
                    injection e with e1 e2 e3
                    subst e1 e3
                    refine ⟨qb, rfl, k3, k4, ?_⟩
                    have := hown.cells (g := qb) rfl k1 (.int .i64 (x : Int)) (by simp [natCells, hk1])
                    rw [add_zero_off, Nat.zero_add] at this
                    exact this
                obtain ⟨qb, rfl, hq1, hq2, gq⟩ := hview
                obtain ⟨hcx, hxn⟩ := A.ws x (by simp)
                have hnc : natCells (ws' ++ [x]) = natCells ws' ++ [.int .i64 (x : Int)] := by simp [natCells]
                rw [hnc] at hown
                have hpop := own_pop hown (by simp [natCells, hk1])
                have hbrow : (castG (grOf n (backOf g)))[x]? = some ((backOf g x).map fun (y : Nat) => (y : Int)) := by
                  have h1 := castG_get (g := grOf n (backOf g)) (i := x) (by rw [grOf_length]; exact hxn)
                  rw [h1, grOf_edges hxn]
                obtain ⟨b1, o1, lo, lc, e1, hcl, hil⟩ := rowsT_cell HR2.out hbrow
                injection e1 with e1
                injection e1 with e1 e1'
                subst e1 e1'
                rw [Nat.zero_add, List.length_map] at hcl
                rw [List.length_map] at hil
                obtain ⟨bn, hbn⟩ : ∃ bn, bn = (backOf g x).length := ⟨_, rfl⟩
                rw [← hbn] at hcl hil
                have hbn2 := (ints_len hil.ints).1
                have HBN := hid hbn
                have HIL := hid hil
                have HCL := hid hcl
                obtain ⟨K0, hK0⟩ : ∃ K0, K0 = 2 * cntF (setN c') n + ws'.length := ⟨_, rfl⟩
                have HKK := hid (show K0 < gk from by rw [hlen] at hpot; omega)
                have HWL := hid (show K0 ≤ 100000 from by
                  rw [hlen] at hpot
                  omega)
                have RI := hid (show WaitK w2 g order n q r d m c K0 x (.slice (some ⟨qb, 0, none⟩) k1 qc) (.int .i64 0) wr from
                  ⟨c', ws', 0, rfl, Nat.zero_le _, ⟨by rw [← hk1]; exact hpop, A.row, A.kin.turn (fun u y he _ hy => .inr (by
                    rw [List.mem_append, List.mem_singleton] at hy
                    rcases hy with hy | rfl
                    · exact .inl hy
                    · exact .inr ⟨rfl, by rw [List.drop_zero]; exact mem_back.2 he⟩)), fun y hy => A.ws y (by simp [hy]), A.bel⟩, hcx, by omega⟩)
                have c1 := cell_below hcl A.bel
                rw [hlen, ← hk1]
                clear A hpot hgk hlen hk1 hown hpop hnc hcx hbrow hil hcl hbn hK0
                go_wp2_with fail
                clear c1 gq
                go_loopw [10, 12] (fun wv kv y => WaitK w2 g order n q r d m c K0 x wv kv y) (fun _ kv _ => bn - (intOf kv).toNat)
                case atStart => exact RI.out
                case round =>
                  clear RI
                  obtain ⟨c', ws, k, rfl, hk, A, hcx, hpot⟩ := hrel
                  rw [← HBN.out] at hk
                  have c1 := cell_below HCL.out A.bel
                  by_cases hkb : k < bn
                  · obtain ⟨u, hu⟩ : ∃ u, (backOf g x)[k]? = some u := ⟨_, List.getElem?_eq_getElem (by have := HBN.out; omega)⟩
                    obtain ⟨b3, o3, rfl, c2w, x1, x2⟩ := ints_cell HIL.out.ints (i := k) (x := (u : Int)) (by rw [List.getElem?_map, hu]; rfl)
                    have c2 := cell_below c2w A.bel
                    have heu : edge g u x := mem_back.1 (List.mem_of_getElem? hu)
                    have hun : u < n := by have := edge_lt heu; have := HN.out; omega
                    have hdrop : (backOf g x).drop k = u :: (backOf g x).drop (k + 1) := by
                      obtain ⟨hl1, e⟩ := List.getElem?_eq_some_iff.1 hu
                      rw [← List.getElem_cons_drop hl1, e]
                    have g1 := A.row.get hun
                    have g2 := A.row.free (i := u)
                    have hkn : k + 1 ≤ (backOf g x).length := by have := HBN.out; omega
                    cases hcu : c' u with
                    | some v =>
                      have hv : islI c' u = (v : Int) := by simp [islI, hcu]
                      rw [hv] at g1
                      have RR := hid (fun wv' (e : wv' = u10) => show WaitK w2 g order n q r d m c K0 x wv' (.int .i64 ((k : Int) + 1)) wr from e ▸
                        ⟨c', ws, k + 1, by simp, hkn, ⟨A.own, A.row, A.kin.turn (fun a y _ _ hy => by
                          rcases hy with hy | ⟨hy1, hy2⟩
                          · exact .inr (.inl hy)
                          · rw [hdrop, List.mem_cons] at hy2
                            rcases hy2 with rfl | hy2
                            · exact .inl (by rw [hcu]; simp)
                            · exact .inr (.inr ⟨hy1, hy2⟩)), A.ws, A.bel⟩, hcx, hpot⟩)
                      clear A hpot hcx hu heu hdrop hv hcu c2w hkn
                      go_wp2_with fail
                      go_roundw
                      case rel => exact RR.out _ rfl
                      case measure => simp [intOf]; omega
                    | none =>
                      have hv : islI c' u = -1 := by simp [islI, hcu]
                      rw [hv] at g1
                      obtain ⟨X, hX⟩ : ∃ X, X = wr.setCell ⟨w2.heap.size, u, none⟩ (.int .i64 (m : Int)) := ⟨_, rfl⟩
                      have hsx : X.heap.size = wr.heap.size := by rw [hX]; simp
                      have cX : Chg [w2.heap.size] wr X := by rw [hX]; exact (Chg.refl _ wr).setCell (by simp) _
                      have hoX := cX.owns A.own (fun b hb hm => by
                        simp only [List.mem_singleton] at hm
                        subst hm
                        have := (A.own.lt _ hb).1
                        omega)
                      have hrX : RowF X w2.heap.size n (islI (upd c' u (some m))) := by
                        rw [hX, ← islI_upd]
                        exact A.row.set (m : Int)
                      have hbX : Below w2.heap.size w2 X := by rw [hX]; exact A.bel.setCell (Nat.le_refl _) _
                      have hfl := A.row.lt
                      have hcnt := cntF_upd (f := setN c') (x := u) (by simp [setN, hcu]) n
                      rw [if_pos hun] at hcnt
                      have hcle := cntF_le (setN c') n
                      have hwl : ws.length ≤ 1000000 := by
                        have h9 := HWL.out
                        omega
                      obtain ⟨a, cc, w3, happ, O3, ch3, _⟩ := app_int hoX (by omega) hwl (u : Int)
                      have hux : u ≠ x := fun e => by subst e; rw [hcu] at hcx; simp at hcx
                      have hfar : w2.heap.size ∉ own u10 := fun hm => by
                        simp only [own, Option.mem_toList] at hm
                        have := (A.own.lt _ hm).1
                        omega
                      have RR := hid (show WaitK w2 g order n q r d m c K0 x (.slice a (ws.length + 1) cc) (.int .i64 ((k : Int) + 1)) w3 from
                        ⟨upd c' u (some m), ws ++ [u], k + 1, by simp, hkn, ⟨by
                          have e : natCells (ws ++ [u]) = natCells ws ++ [.int .i64 (u : Int)] := by simp [natCells]
                          rw [List.length_append, e]
                          exact O3, hrX.chg ch3 hfar, (A.kin.more HK.out HO.out HR.out HD2.out HD3.out heu hcx hcu).turn (fun a y _ _ hy => by
                          rcases hy with (hy | ⟨hy1, hy2⟩) | rfl
                          · exact .inr (.inl (by simp [hy]))
                          · rw [hdrop, List.mem_cons] at hy2
                            rcases hy2 with rfl | hy2
                            · exact .inl (by rw [upd_same]; simp)
                            · exact .inr (.inr ⟨hy1, hy2⟩)
                          · exact .inr (.inl (by simp))), fun y hy => by
                          rw [List.mem_append, List.mem_singleton] at hy
                          by_cases e : y = u
                          · subst e; exact ⟨upd_same _ _ _, hun⟩
                          · rw [upd_far _ _ e]; exact A.ws y (hy.resolve_right e), hbX.trans (ch3.below (fun b hb => by
                          simp only [own, Option.mem_toList] at hb
                          have := (hoX.lt b hb).1
                          omega) hbX.size)⟩, by rw [upd_far _ _ (Ne.symm hux)]; exact hcx, by
                          rw [setN_upd, List.length_append]
                          simp only [List.length_cons, List.length_nil]
                          omega⟩)
                      rw [hsx, hX] at happ
                      have c1X := cell_below HCL.out hbX
                      have c2X := cell_below c2w hbX
                      rw [hX] at c1X c2X
                      clear A hpot hcx hu heu hdrop hv hcu c2w hkn hX hsx cX hoX hrX hbX hfl hcnt hcle O3 ch3 hux hfar hwl
                      go_wp2_with (at_builtin; refine wpList_append_run rfl (.tmp 100) (.tmp 108) 24 rfl _ _ rfl rfl happ ?_)
                      go_roundw
                      case rel => exact RR.out
                      case measure => simp [intOf]; omega
                  · have RR := hid (fun wv' (e : wv' = u10) => show WaitIn w2 g order n q r d m c K0 wv' wr from e ▸
                      ⟨c', ws, ⟨A.own, A.row, A.kin.turn (fun a y _ _ hy => by
                        rcases hy with hy | ⟨_, hy2⟩
                        · exact .inr hy
                        · rw [List.drop_eq_nil_of_le (by have := HBN.out; omega)] at hy2
                          simp at hy2), A.ws, A.bel⟩, hpot, HWL.out⟩)
                    clear A hpot hcx
                    go_wp2_with fail
                    go_roundg K0
                    case rel => exact RR.out _ rfl
                    case measure => exact HKK.out

end Go.Proofs.Ytagfgbmaibadjaa
