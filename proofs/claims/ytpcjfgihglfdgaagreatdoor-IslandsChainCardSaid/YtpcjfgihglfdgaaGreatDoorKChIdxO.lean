/- Rows of lines and of ints that a call makes itself. Contracts of the index's small functions. No condition. Contracts of index.of, New, lines.put. No condition. Contract of lines.put at one line. No condition. -/
import Derived.Test.YtpcjfgihglfdgaaGreatDoorKChForm
import Derived.Test.YtpcjfgihglfdgaaGreatDoorKSpOwn

namespace Go.Proofs.YtpcjfgihglfdgaaGreatDoor
open Go.RowKit Go.Lib Go.Maps

def lineC (p : Int × Int) : List Value := [.int .i64 p.1, .int .i64 p.2]
def intC (x : Int) : List Value := [.int .i64 x]
theorem lines_info : (Tryz.prog.info? 188).map (fun i => (i.zero, i.size, i.bytes)) = some (some (.agg #[.int .i64 0, .int .i64 0]), 2, 16) := by kernel_rfl
/-- a row of the call's own that holds such things -/
def LinesOwn (w : World) (B : Nat) (v : Value) (l : List (Int × Int)) : Prop := w.ownsRow B 188 2 v l.length (l.flatMap lineC)
theorem LinesOwn.nil (w : World) (B : Nat) : LinesOwn w B (.slice none 0 0) [] := ⟨rfl, .inl ⟨rfl, rfl⟩⟩
theorem LinesOwn.app {w : World} {B : Nat} {v : Value} {l : List (Int × Int)} (h : LinesOwn w B v l) (hB : B ≤ w.heap.size) {m g : Nat} (hml : m = l.length) (hgs : w.heap.size = g) (hm : m ≤ 1000000) (p : (Int × Int)) :
    ∃ a c w2, (Builtin.append_ #[126, 126] 126 #[v, .slice (some ⟨g, 0, none⟩) 1 1]).run Tryz.prog (w.alloc (.cells (lineC p).toArray 188)) = .ok (.slice a (m + 1) c) w2 ∧
      LinesOwn w2 B (.slice a (m + 1) c) (l ++ [p]) ∧ Chg (own v) w w2 ∧ ∀ g, (Value.slice a (m + 1) c).ownBlock = some g → v.ownBlock = some g ∨ w.heap.size ≤ g := by
  subst hml hgs
  obtain ⟨i0, hi, hz0, hz1, hz2⟩ := info_parts lines_info
  obtain ⟨v', w2, h1, h2, h3, _, h5⟩ := run_append_own_at (P := Tryz.prog) (w.alloc (.cells (lineC p).toArray 188)) B 126 126 188 i0 (.agg #[.int .i64 0, .int .i64 0]) 2 16 Tryz.underlying126 hi hz0 hz1 hz2 rfl (by decide) v l.length _ (h.alloc _)
    ⟨w.heap.size, 0, none⟩ 1 1 (lineC p) rfl (cells_new _ _ _) (by intro u hu; simp [lineC] at hu; rcases hu with rfl | rfl <;> rfl) (by unfold maxLen; omega) (by omega) (by simp; omega)
  obtain ⟨a, c, rfl, _⟩ := ownsRow_view h2
  refine ⟨a, c, w2, h1, ?_, ((Chg.refl _ w).alloc _).grown h3 (fun k hk => .inl (by simp [own, hk])), fun g hg => ?_⟩
  · unfold LinesOwn
    rw [List.length_append, List.flatMap_append]
    simpa using h2
  · rcases h5 with h5 | h5
    · exact .inl (h5 ▸ hg)
    · rw [hg] at h5
      simp only [Option.some.injEq, World.size_alloc] at h5
      exact .inr (by omega)
theorem LinesOwn.view {w : World} {B : Nat} {v : Value} {l : List (Int × Int)} (h : LinesOwn w B v l) : ∃ a m c, v = .slice a m c ∧ m = l.length := by
  obtain ⟨a, c, e, -⟩ := ownsRow_view h
  exact ⟨a, _, c, e, rfl⟩
theorem LinesOwn.low {w : World} {B : Nat} {v : Value} {l : List (Int × Int)} (h : LinesOwn w B v l) : ∀ g, v.ownBlock = some g → B ≤ g ∧ g < w.heap.size := ownsRow_low h
theorem LinesOwn.chg {w w' : World} {B : Nat} {v : Value} {l : List (Int × Int)} {F : List Nat} (h : LinesOwn w B v l) (hc : Chg F w w') (hn : ∀ g, v.ownBlock = some g → g ∉ F) : LinesOwn w' B v l := hc.owns h hn
theorem LinesOwn.below {w w' : World} {B : Nat} {v : Value} {l : List (Int × Int)} (h : LinesOwn w B v l) (hb : Below w.heap.size w w') : LinesOwn w' B v l := h.chg (F := []) (Chg.of_below hb) (by simp)
theorem ints_info : (Tryz.prog.info? 3).map (fun i => (i.zero, i.size, i.bytes)) = some (some (.int .i64 0), 1, 8) := by kernel_rfl
/-- a row of the call's own that holds such things -/
def IntOwn (w : World) (B : Nat) (v : Value) (l : List Int) : Prop := w.ownsRow B 3 1 v l.length (l.flatMap intC)
theorem IntOwn.nil (w : World) (B : Nat) : IntOwn w B (.slice none 0 0) [] := ⟨rfl, .inl ⟨rfl, rfl⟩⟩
theorem IntOwn.app {w : World} {B : Nat} {v : Value} {l : List Int} (h : IntOwn w B v l) (hB : B ≤ w.heap.size) {m g : Nat} (hml : m = l.length) (hgs : w.heap.size = g) (hm : m ≤ 1000000) (p : Int) :
    ∃ a c w2, (Builtin.append_ #[42, 42] 42 #[v, .slice (some ⟨g, 0, none⟩) 1 1]).run Tryz.prog (w.alloc (.cells (intC p).toArray 3)) = .ok (.slice a (m + 1) c) w2 ∧
      IntOwn w2 B (.slice a (m + 1) c) (l ++ [p]) ∧ Chg (own v) w w2 ∧ ∀ g, (Value.slice a (m + 1) c).ownBlock = some g → v.ownBlock = some g ∨ w.heap.size ≤ g := by
  subst hml hgs
  obtain ⟨i0, hi, hz0, hz1, hz2⟩ := info_parts ints_info
  obtain ⟨v', w2, h1, h2, h3, _, h5⟩ := run_append_own_at (P := Tryz.prog) (w.alloc (.cells (intC p).toArray 3)) B 42 42 3 i0 (.int .i64 0) 1 8 Tryz.underlying42 hi hz0 hz1 hz2 rfl (by decide) v l.length _ (h.alloc _)
    ⟨w.heap.size, 0, none⟩ 1 1 (intC p) rfl (cells_new _ _ _) (by intro u hu; simp [intC] at hu; subst hu; rfl) (by unfold maxLen; omega) (by omega) (by simp; omega)
  obtain ⟨a, c, rfl, _⟩ := ownsRow_view h2
  refine ⟨a, c, w2, h1, ?_, ((Chg.refl _ w).alloc _).grown h3 (fun k hk => .inl (by simp [own, hk])), fun g hg => ?_⟩
  · unfold IntOwn
    rw [List.length_append, List.flatMap_append]
    simpa using h2
  · rcases h5 with h5 | h5
    · exact .inl (h5 ▸ hg)
    · rw [hg] at h5
      simp only [Option.some.injEq, World.size_alloc] at h5
      exact .inr (by omega)
theorem IntOwn.view {w : World} {B : Nat} {v : Value} {l : List Int} (h : IntOwn w B v l) : ∃ a m c, v = .slice a m c ∧ m = l.length := by
  obtain ⟨a, c, e, -⟩ := ownsRow_view h
  exact ⟨a, _, c, e, rfl⟩
theorem IntOwn.low {w : World} {B : Nat} {v : Value} {l : List Int} (h : IntOwn w B v l) : ∀ g, v.ownBlock = some g → B ≤ g ∧ g < w.heap.size := ownsRow_low h
theorem IntOwn.chg {w w' : World} {B : Nat} {v : Value} {l : List Int} {F : List Nat} (h : IntOwn w B v l) (hc : Chg F w w') (hn : ∀ g, v.ownBlock = some g → g ∉ F) : IntOwn w' B v l := hc.owns h hn
theorem IntOwn.below {w w' : World} {B : Nat} {v : Value} {l : List Int} (h : IntOwn w B v l) (hb : Below w.heap.size w w') : IntOwn w' B v l := h.chg (F := []) (Chg.of_below hb) (by simp)
theorem LinesOwn.read {w : World} {B : Nat} {v : Value} {l : List (Int × Int)} (h : LinesOwn w B v l) : RowIn w 2 v (l.map lineC) :=
  rowIn_of_own (L := l.map lineC) (by intro c hc; obtain ⟨q, -, rfl⟩ := List.mem_map.1 hc; rfl) (by simpa [List.flatMap_map, LinesOwn, List.flatMap_def, Function.comp_def] using h)
theorem LinesOwn.cells {w : World} {B : Nat} {v : Value} {l : List (Int × Int)} (h : LinesOwn w B v l) : ∃ ao c b off, v = .slice ao l.length c ∧ ∀ (j : Nat) (p : Int × Int), l[j]? = some p → ao = some ⟨b, off, none⟩ ∧
    w.cell? ⟨b, off + j * 2, none⟩ = some (.int .i64 p.1) ∧ w.cell? ⟨b, off + j * 2 + 1, none⟩ = some (.int .i64 p.2) := by
  obtain ⟨ao, c, b, off, h1, h2, h3⟩ := h.read
  refine ⟨ao, c, b, off, by simpa using h1, fun j p hp => ?_⟩
  have := h3 j (lineC p) (by simp [hp])
  exact ⟨this.1, this.2 0 _ rfl, this.2 1 _ rfl⟩
theorem IntOwn.read {w : World} {B : Nat} {v : Value} {l : List Int} (h : IntOwn w B v l) : RowIn w 1 v (l.map intC) :=
  rowIn_of_own (L := l.map intC) (by intro c hc; obtain ⟨q, -, rfl⟩ := List.mem_map.1 hc; rfl) (by simpa [List.flatMap_map, IntOwn, List.flatMap_def, Function.comp_def] using h)

theorem ints_flat : ∀ news : List Int, (news.flatMap intC).length = news.length * 1
  | [] => rfl
  | x :: r => by
    have := ints_flat r
    rw [List.flatMap_cons, List.length_append, this]
    simp [intC]
    omega
theorem IntOwn.apps {w : World} {B : Nat} {v : Value} {l : List Int} (h : IntOwn w B v l) (hB : B ≤ w.heap.size) {m : Nat} (hml : m = l.length) (hm : m ≤ 1000000) {ad : Addr} {k cc : Nat} (news : List Int) (hk : k = news.length) (hk2 : k ≤ 1000)
    (hn : ∀ j u, (news.flatMap intC)[j]? = some u → w.cell? (ad.add j) = some u) :
    ∃ a c w2, (Builtin.append_ #[42, 42] 42 #[v, .slice (some ad) k cc]).run Tryz.prog w = .ok (.slice a (m + k) c) w2 ∧
      IntOwn w2 B (.slice a (m + k) c) (l ++ news) ∧ Chg (own v) w w2 ∧ ∀ g, (Value.slice a (m + k) c).ownBlock = some g → v.ownBlock = some g ∨ w.heap.size ≤ g := by
  subst hml hk
  obtain ⟨i0, hi, hz0, hz1, hz2⟩ := info_parts ints_info
  have hfl : (news.flatMap intC).length = news.length * 1 := ints_flat news
  obtain ⟨v', w2, h1, h2, h3, _, h5⟩ := run_append_own_at (P := Tryz.prog) w B 42 42 3 i0 (.int .i64 0) 1 8 Tryz.underlying42 hi hz0 hz1 hz2 rfl (by decide) v l.length _ h
    ad news.length cc (news.flatMap intC) hfl hn (by intro u hu; obtain ⟨x, -, hx⟩ := List.mem_flatMap.1 hu; simp [intC] at hx; subst hx; rfl) (by unfold maxLen; omega) (by omega) hB
  obtain ⟨a, c, rfl, _⟩ := ownsRow_view h2
  refine ⟨a, c, w2, h1, ?_, (Chg.refl _ w).grown h3 (fun k hk => .inl (by simp [own, hk])), fun g hg => ?_⟩
  · unfold IntOwn
    rw [List.length_append, List.flatMap_append]
    exact h2
  · rcases h5 with h5 | h5
    · exact .inl (h5 ▸ hg)
    · rw [hg] at h5
      simp only [Option.some.injEq] at h5
      exact .inr (by omega)
theorem app_nil_nil (c : Nat) (w : World) : (Builtin.append_ #[42, 42] 42 #[.slice none 0 0, .slice none 0 c]).run Tryz.prog w = .ok (.slice none 0 0) w := by kernel_rfl

section
variable {P : Program} {w : World} {ops : Array Oper} {rest : List Oper} {o : Oper} {a : Act} {Q : Exit → Act → World → Prop}
/-- the first of the two operations of m[k] = append(m[k], ..), by an equation on its run -/
theorem wpList_mapEntry_run (hg : o.guard = none) (m x : Operand) (t : TypeId) (hop : o.op = Op.mapEntry t m x) {mv kv r : Value} {w' : World} (hm : a.eval m = mv) (hx : a.eval x = kv)
    (hr : (Instr.mapEntry t mv kv).run P w = .ok r w') (hK : wpList P ops Q rest (a.put o.dst r) w') : wpList P ops Q (o :: rest) a w := by
  refine wpList_plain hg fun K' hK' => ?_
  unfold Oper.wp
  simp [execOp, hop, hm, hx, hr, Result.andThen]
  exact hK' _ _ hK
theorem wpList_entryStore_run (hg : o.guard = none) (m s x : Operand) (t : TypeId) (hop : o.op = Op.entryStore t m s x) {mv sv xv : Value} {w' : World} (hm : a.eval m = mv) (hs : a.eval s = sv) (hx : a.eval x = xv)
    (hr : (Instr.entryStore t mv sv xv).run P w = .ok () w') (hK : wpList P ops Q rest (a.put o.dst undef) w') : wpList P ops Q (o :: rest) a w := by
  refine wpList_plain hg fun K' hK' => ?_
  unfold Oper.wp
  simp [execOp, hop, hm, hs, hx, hr, Result.andThen]
  exact hK' _ _ hK
end

set_option maxHeartbeats 400000 in
theorem isFrom_yes (f n l : Int) (h0 : 0 ≤ f) (h1 : f < l) (h2 : 1 ≤ n) (h3 : n ≤ l - f) (h4 : l ≤ 100000) (w : World) : Calls Tryz.prog 98 #[.int .i64 f, .int .i64 n, .int .i64 l] w fun e w' => e = .returned (.bool true) ∧ w' = w := by
  go_enter Tryz.func98, Tryz.ntmps98
  go_wp2
  all_goals go_ret
  all_goals exact ⟨ret_bool (by simp <;> omega), rfl⟩
/-- an area of the first column -/
abbrev arV (r R : Int) : Value := .agg #[.int .i64 0, .int .i64 r, .int .i64 0, .int .i64 R, .int .i64 1]
def ArOk (r R : Int) : Prop := 0 ≤ r ∧ 1 ≤ R ∧ r + R ≤ 200
set_option maxHeartbeats 400000 in
theorem isArea_yes (r R : Int) (h : ArOk r R) (w : World) : Calls Tryz.prog 54 #[arV r R] w fun e w' => e = .returned (.bool true) ∧ Below w.heap.size w w' := by
  have H1 := hid (fun w => isFrom_yes 0 1 8 (by omega) (by omega) (by omega) (by omega) (by omega) w)
  have H2 := hid (fun w => isFrom_yes r R 200 h.1 (by have := h.2; omega) h.2.1 (by have := h.2; omega) (by omega) w)
  have H3 := hid (fun w => isFrom_yes 0 1 52 (by omega) (by omega) (by omega) (by omega) (by omega) w)
  clear h
  go_enter Tryz.func54, Tryz.ntmps54
  go_wp2_with fail
  refine (H1.out _).mono ?_
  rintro e w1 ⟨rfl, rfl⟩
  go_wp2_with fail
  refine (H2.out _).mono ?_
  rintro e w1 ⟨rfl, rfl⟩
  go_wp2_with fail
  refine (H3.out _).mono ?_
  rintro e w1 ⟨rfl, rfl⟩
  go_wp2_with fail
  go_ret
  exact ⟨rfl, (Below.refl _ w).alloc (Nat.le_refl _) _⟩
end Go.Proofs.YtpcjfgihglfdgaaGreatDoor

namespace Go.Proofs.YtpcjfgihglfdgaaGreatDoor
open Go.RowKit Go.Lib Go.Maps

/-- the rows of an area -/
def rowsOf (r : Int) (R : Nat) : List (Int × Int) := (List.range R).map fun (i : Nat) => (0, r + (i : Int))
theorem rowsOf_succ (r : Int) (R : Nat) : rowsOf r (R + 1) = rowsOf r R ++ [(0, r + (R : Int))] := by simp [rowsOf, List.range_succ]
structure OfS (w : World) (r R : Int) (v : Value) (j : Nat) (y : World) : Prop where
  own : LinesOwn y (w.heap.size + 1) v (rowsOf r j)
  box : y.heap[w.heap.size]? = some (.cells #[.int .i64 0, .int .i64 r, .int .i64 0, .int .i64 R, .int .i64 1] 62 (0, 0))
  low : Below w.heap.size w y

set_option maxRecDepth 20000 in
set_option maxHeartbeats 1000000 in
theorem of_any (r : Int) (R : Nat) (hr : 0 ≤ r) (hR : r + (R : Int) ≤ 1000) (w : World) : Calls Tryz.prog 48 #[arV r (R : Int)] w fun e w' => ∃ v, e = .returned v ∧ LinesOwn w' (w.heap.size + 1) v (rowsOf r R) ∧ Below w.heap.size w w' := by
  have HO := hid (show OfS w r (R : Int) (.slice none 0 0) 0 (w.alloc (.cells #[.int .i64 0, .int .i64 r, .int .i64 0, .int .i64 (R : Int), .int .i64 1] 62)) from ⟨LinesOwn.nil _ _, heap_alloc_new w _, (Below.refl _ w).alloc (Nat.le_refl _) _⟩)
  go_enter Tryz.func48, Tryz.ntmps48
  go_wp2_with fail
  rename_i K hK
  have HC := hid hK
  clear hK
  generalize World.alloc _ _ = w0 at HO ⊢
  go_loopw [3, 4, 7] (fun v _ i wr => ∃ j : Nat, i = .int .i64 j ∧ j ≤ R ∧ OfS w r (R : Int) v j wr) (fun _ _ i _ => R - (intOf i).toNat)
  case atStart => exact ⟨0, rfl, by omega, HO.out⟩
  case round =>
    obtain ⟨j, rfl, hj, hS⟩ := hrel
    obtain ⟨a, m, c, rfl, hm⟩ := hS.own.view
    have hml : m = j := by rw [hm]; simp [rowsOf]
    subst hml
    have HS := hid hS
    clear HO
    by_cases hjn : m < R
    · have c0 := cell_of (i := 0) hS.box rfl
      have c1 := cell_of (i := 1) hS.box rfl
      have hsz : w.heap.size + 1 ≤ wr.heap.size := heap_lt hS.box
      obtain ⟨a', c', w2, happ, ho, hc, hb⟩ := hS.own.app hsz hm rfl (by omega) (0, r + (m : Int))
      have happ' : (Builtin.append_ #[126, 126] 126 #[.slice a m c, .slice (some ⟨wr.heap.size, 0, none⟩) 1 1]).run Tryz.prog (wr.alloc (.cells #[.int .i64 0, .int .i64 (r + (m : Int))] 188)) = .ok (.slice a' (m + 1) c') w2 := happ
      have hlow := hS.own.low
      have HR := hid (show OfS w r (R : Int) (.slice a' (m + 1) c') (m + 1) w2 from ⟨by rw [rowsOf_succ]; exact ho, hc.heap hS.box (by
          intro hx
          simp only [own, Option.mem_toList] at hx
          have := hlow _ hx
          omega), (Chg.of_below (F := []) hS.low).trans hc (fun x hx => by
          simp only [own, Option.mem_toList] at hx
          have := hlow _ hx
          right; omega) |>.nil_below⟩)
      have hb1 : r + (m : Int) ≤ 1000 := by omega
      have HJ := hid hj
      have HB := hid hR
      clear hS happ ho hc hb hlow hm hsz hj hR
      go_wp2_with (at_builtin; refine wpList_append_run rfl _ _ _ rfl _ _ rfl rfl happ' ?_)
      go_roundw
      case rel => exact ⟨m + 1, by simp, hjn, HR.out⟩
      case measure => simp [intOf]; omega
    · obtain rfl : m = R := by omega
      clear hS hj hjn hm hR hr
      go_wp2_with fail
      refine HC.out _ _ ?_
      go_wp2_with fail
      go_ret
      exact ⟨_, rfl, HS.out.own, HS.out.low⟩

set_option maxHeartbeats 400000 in
theorem new_any (w : World) : Calls Tryz.prog 12 #[] w fun e w' => e = .returned (.pointer (some ⟨w.heap.size + 1 + 1, 0, none⟩)) ∧
    w' = ((w.alloc (.map #[] 0)).alloc (.map #[] 0)).alloc (.cells #[.map (some w.heap.size), .map (some (w.heap.size + 1))] 115) := by
  have hmm := @run_makeMap Tryz.prog
  go_enter Tryz.func12, Tryz.ntmps12
  go_wp2_with fail
  go_ret
  exact ⟨rfl, rfl⟩
end Go.Proofs.YtpcjfgihglfdgaaGreatDoor

namespace Go.Proofs.YtpcjfgihglfdgaaGreatDoor
open Go.RowKit Go.Lib Go.Maps

abbrev sliceN : Value := .slice none 0 0
theorem slice_zero (w : World) : (zeroValue 42).run Tryz.prog w = .ok sliceN w := by kernel_rfl
/-- what put leaves of the map of lines -/
def PutLs (w : World) (m1 n : Nat) (M : Int × Int → Option Value) (q id : Int) (w' : World) : Prop :=
  ∃ b c cs, Chg [m1] w w' ∧ w.heap.size ≤ b ∧ w'.heap[b]? = some (.cells cs 3 (0, 0)) ∧ cs[0]? = some (.int .i64 id) ∧
    ∀ M', M' (0, q) = some (.slice (some ⟨b, 0, none⟩) 1 c) → (∀ p, p ≠ (0, q) → M' p = M p) → MapV w' 188 sliceN lineV m1 (n + 1) M'
set_option maxRecDepth 20000 in
set_option maxHeartbeats 1000000 in
theorem put_one {w : World} {m1 n : Nat} {M : Int × Int → Option Value} (hM : MapV w 188 sliceN lineV m1 n M) (hn : n < 1000) (q id : Int) (hq : 0 ≤ q ∧ q ≤ 1000) {lv : Value} {B : Nat} (hl : LinesOwn w B lv [(0, q)]) (h0 : M (0, q) = none) :
    Calls Tryz.prog 47 #[.agg #[.map (some m1)], .int .i64 id, lv] w fun e w' => (∃ v, e = .returned v) ∧ PutLs w m1 n M q id w' := by
  obtain ⟨ao, c, b, off, rfl, hc⟩ := hl.cells
  obtain ⟨rfl, c0, c1⟩ := hc 0 (0, q) rfl
  have hlt1 := World.block_lt_of_cell? _ _ c0
  have hml := hM.lt
  simp only [List.length_singleton, Nat.zero_mul, Nat.add_zero] at *
  clear hc hl
  have ba := (Below.refl w.heap.size w).alloc (Nat.le_refl _) (.cells #[.map (some m1)] 112)
  have HA := hid (show MapV (w.alloc (.cells #[.map (some m1)] 112)) 188 sliceN lineV m1 n M from hM.below ba)
  have x0 := cell_keep c0 ba
  have x1 := cell_keep c1 ba
  have g0 := heap_alloc_new w (.cells #[.map (some m1)] 112)
  have BA := hid ba
  have CA := hid (show Chg [m1] w (w.alloc (.cells #[.map (some m1)] 112)) from (Chg.refl _ w).alloc _)
  obtain ⟨g, hg⟩ : ∃ g, g = w.heap.size := ⟨_, rfl⟩
  clear hM ba c0 c1
  go_enter Tryz.func47, Tryz.ntmps47
  go_wp2_with fail
  rw [← hg] at g0 ⊢
  have x2 := cell_of (i := 0) g0 rfl
  have HG := hid hg
  clear hg
  generalize World.alloc _ _ = w0 at HA x0 x1 x2 g0 BA CA ⊢
  have b1 := ((Below.refl w0.heap.size w0).alloc (Nat.le_refl _) (.cells #[.int .i64 0, .int .i64 q] 188)).alloc (by simp) (.cells #[.int .i64 id] 3)
  obtain ⟨st, es1, c1, w1, hme, hb1, hg1, hst⟩ := (HA.out.below b1).entry line_keys line_law Tryz.underlying110 slice_zero (by omega) (0, q) ⟨by unfold I64; omega, by unfold I64; omega⟩
  rw [h0] at hme
  simp only [Option.getD_none, lineV, goInt] at hme
  have hcell : ∀ j u, ([id].flatMap intC)[j]? = some u → w1.cell? ((⟨w0.heap.size + 1, 0, none⟩ : Addr).add j) = some u := by
    intro j u hj
    have hk : w1.heap[w0.heap.size + 1]? = some (.cells #[.int .i64 id] 3 (0, 0)) := by
      have h2 := heap_alloc2_new w0 (.cells #[.int .i64 0, .int .i64 q] 188) (.cells #[.int .i64 id] 3)
      have hne : w0.heap.size + 1 ≠ m1 := by have := HA.out.lt; omega
      exact (hg1.block _ (heap_lt h2) (by simpa using hne)).trans h2
    match j, hj with
    | 0, hj =>
      simp [intC] at hj
      subst hj
      exact cell_of (i := 0) hk rfl
  obtain ⟨a', c', w2, happ, ho, hc, hb⟩ := (IntOwn.nil w1 (w0.heap.size)).apps (by have := hg1.size; simp at this; omega) rfl (by simp) (ad := ⟨w0.heap.size + 1, 0, none⟩) (k := 1) (cc := 1) [id] rfl (by omega) hcell
  have hb2 : w2.heap[m1]? = some (.map es1 c1) := hc.heap hb1 (by simp [own, Value.ownBlock])
  obtain ⟨w3, hes, hg3, hfin⟩ := hst w2 (.slice a' (0 + 1) c') hb2
  have hres : PutLs w m1 n M q id w3 := by
    obtain ⟨b', hab, cs, hcs, hcs0⟩ : ∃ b', a' = some ⟨b', 0, none⟩ ∧ ∃ cs, w2.heap[b']? = some (.cells cs 3 (0, 0)) ∧ cs[0]? = some (.int .i64 id) := by
      rcases ho.2 with ⟨hn, -⟩ | ⟨b', cap, cs, hv, -, hh, hn1, hn2, hn3, ht⟩
      · cases hn
      · cases hv
        refine ⟨b', rfl, cs, hh, ?_⟩
        have : (cs.toList.take 1)[0]? = some (Value.int .i64 id) := by
          have ht' : cs.toList.take 1 = [Value.int .i64 id] := by simpa [intC] using ht
          rw [ht']; rfl
        rw [List.getElem?_take_of_lt (by omega)] at this
        simpa using this
    subst hab
    have hlow := hb b' rfl
    have hlow' : w1.heap.size ≤ b' := by
      rcases hlow with h | h
      · cases h
      · exact h
    have hsz1 := hg1.size
    have hsz2 := hc.size
    have hsz0 := BA.out.size
    simp only [World.size_alloc] at hsz1
    refine ⟨b', c', cs, ?_, by omega, ?_, hcs0, fun M' hM' hM'' => hfin M' hM' hM''⟩
    · have k1 : Chg [m1] w w1 := (((CA.out.alloc (.cells #[.int .i64 0, .int .i64 q] 188)).alloc (.cells #[.int .i64 id] 3))).grown hg1 (fun k hk => .inl (by simpa using hk.symm))
      have k2 : Chg [m1] w w2 := k1.trans hc (by simp [own, Value.ownBlock])
      exact k2.grown hg3 (fun k hk => .inl (by simpa using hk.symm))
    · have hne : b' ≠ m1 := by have := HA.out.lt; omega
      exact (hg3.block _ (heap_lt hcs) (by simpa using hne)).trans hcs
  have HR := hid hres
  have hgl := heap_lt g0
  have hbl := World.block_lt_of_cell? _ _ x0
  clear hres hfin hst ho hc hb hb2 hb1 hg1 hg3 hcell b1 HA CA BA h0 g0
  refine wp_loop_rounds 2 ?_
  rw [rounds_succ]
  simp only [goInt] at hes
  go_wp2_with (first | (refine wpList_mapEntry_run rfl _ _ _ rfl rfl rfl hme ?_) | (refine wpList_append_run rfl _ _ _ rfl _ _ rfl rfl happ ?_) | (refine wpList_entryStore_run rfl _ _ _ _ rfl rfl rfl rfl hes ?_))
  rw [rounds_succ]
  go_wp2_with fail
  go_end0
  exact ⟨⟨_, rfl⟩, HR.out⟩
end Go.Proofs.YtpcjfgihglfdgaaGreatDoor
