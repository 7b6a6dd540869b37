/- Rows of ints in memory; digits of numbers: trim, digits, less, ten of the document's arithmetic. No condition. Digits of numbers: rows of ints that a call makes; digits, less, at, ten of the document's arithmetic. No condition. The document's decimals at one: plus of nothing, minus of one and one, by one, value, lowest. No condition. The document's decimals at the text "1": value, lowest, near, whole, unit, figures, Read. No condition. The document's test of an input at the text "1". No condition. -/
import Derived.Test.YtmmknjpcffaidaaGreatDoorSpOwn

/- Rows of ints in memory; digits of numbers: trim, digits, less, ten of the document's arithmetic. No condition. -/
namespace Go.Proofs.YtmmknjpcffaidaaGreatDoor
open Go.RowKit Go.Lib

/-- a row of ints in memory -/
def Dg (w : World) (v : Value) (l : List Int) : Prop :=
  ∃ ao c b off, v = .slice ao l.length c ∧ l.length ≤ c ∧ l.length ≤ 1000 ∧ (ao = none → l = []) ∧ ∀ (j : Nat) (x : Int), l[j]? = some x → ao = some ⟨b, off, none⟩ ∧ w.cell? ⟨b, off + j, none⟩ = some (.int .i64 x)
theorem Dg.below {w w' : World} {v : Value} {l : List Int} (h : Dg w v l) (hb : Below w.heap.size w w') : Dg w' v l := by
  obtain ⟨ao, c, b, off, h1, h2, h3, h4, h5⟩ := h
  exact ⟨ao, c, b, off, h1, h2, h3, h4, fun j x hx => ⟨(h5 j x hx).1, (hb.cell (World.block_lt_of_cell? _ _ (h5 j x hx).2)).trans (h5 j x hx).2⟩⟩
theorem Dg.nil (w : World) : Dg w (.slice none 0 0) [] := ⟨none, 0, 0, 0, rfl, by simp, by simp, by simp, by simp⟩
theorem Dg.take {w : World} {l : List Int} {ao : Option Addr} {n c k : Nat} (h : Dg w (.slice ao n c) l) (hk : k ≤ n) : Dg w (.slice ao k c) (l.take k) := by
  obtain ⟨ao', c', b, off, e, h2, h3, h4, h5⟩ := h
  simp only [Value.slice.injEq] at e
  obtain ⟨rfl, e2, rfl⟩ := e
  have hkl : (l.take k).length = k := by rw [List.length_take]; omega
  refine ⟨ao, c, b, off, by rw [hkl], by rw [hkl]; omega, by rw [hkl]; omega, fun h => by rw [h4 h]; simp, fun j x hx => h5 j x ?_⟩
  by_cases hjk : j < k
  · rwa [List.getElem?_take_of_lt hjk] at hx
  · rw [List.getElem?_take_eq_none (by omega)] at hx
    cases hx
theorem Dg.view {w : World} {v : Value} {l : List Int} (h : Dg w v l) : ∃ ao n c b off, v = .slice ao n c ∧ n = l.length ∧ n ≤ c ∧ n ≤ 1000 ∧ (ao = none → n = 0) ∧ ∀ (j : Nat) (x : Int), l[j]? = some x → ao = some ⟨b, off, none⟩ ∧ w.cell? ⟨b, off + j, none⟩ = some (.int .i64 x) := by
  obtain ⟨ao, c, b, off, h1, h2, h3, h4, h5⟩ := h
  exact ⟨ao, _, c, b, off, h1, rfl, h2, h3, fun h => by rw [h4 h]; rfl, h5⟩

/-- how many digits stand ahead of the noughts at the end -/
def trimN : List Int → Nat
  | [] => 0
  | x :: l => if trimN l = 0 ∧ x = 0 then 0 else trimN l + 1
def trimP (l : List Int) : List Int := l.take (trimN l)
theorem trimN_of : ∀ (l : List Int) (n : Nat), n ≤ l.length → (∀ (j : Nat) (x : Int), n ≤ j → l[j]? = some x → x = 0) → (∀ (j : Nat) (x : Int), n = j + 1 → l[j]? = some x → x ≠ 0) → trimN l = n
  | [], n, h, _, _ => by simp at h; subst h; rfl
  | x :: l, n, h, h1, h2 => by
    rcases n with _ | n
    · have e := trimN_of l 0 (by omega) (fun j y _ hy => h1 (j + 1) y (by omega) (by simpa using hy)) (fun j y hj => by omega)
      have := h1 0 x (by omega) (by simp)
      unfold trimN
      rw [if_pos ⟨e, this⟩]
    · simp only [List.length_cons] at h
      have e := trimN_of l n (by omega) (fun j y hj hy => h1 (j + 1) y (by omega) (by simpa using hy)) (fun j y hj hy => h2 (j + 1) y (by omega) (by simpa using hy))
      unfold trimN
      rw [e, if_neg]
      rintro ⟨rfl, rfl⟩
      exact h2 0 0 (by omega) (by simp) rfl

def TrimRel (w : World) (l : List Int) (n : Nat) (iv : Value) (wr : World) : Prop := ∃ m : Nat, iv = .int .i64 (m : Int) ∧ m ≤ n ∧ (∀ (j : Nat) (x : Int), m ≤ j → l[j]? = some x → x = 0) ∧ w = wr
set_option maxHeartbeats 1000000 in
theorem trim_any (w : World) (v : Value) (l : List Int) (h : Dg w v l) : Calls Tryz.prog 239 #[v] w fun e w' => (∃ ov, e = .returned ov ∧ Dg w ov (trimP l)) ∧ w = w' := by
  have HD := hid h
  obtain ⟨ao, n, c, b, off, rfl, hn, hc, hn2, hn0, hcl⟩ := h.view
  have HN := hid hn
  have HCL := hid hcl
  have HN0 := hid hn0
  clear h hn hcl hn0
  go_enter Tryz.func239, Tryz.ntmps239
  go_wp2_with fail
  go_loopw [3] (fun iv wr => TrimRel w l n iv wr) (fun iv _ => (RowKit.intOf iv).toNat)
  case atStart => exact ⟨n, rfl, Nat.le_refl _, fun j x hj hx => (by rw [List.getElem?_eq_none (by rw [← HN.out]; exact hj)] at hx; cases hx), rfl⟩
  case round =>
    obtain ⟨m, rfl, hm, hz, rfl⟩ := hrel
    have HZ := hid hz
    clear hz
    have fin : ∀ (_ : ∀ (j : Nat) (x : Int), m = j + 1 → l[j]? = some x → x ≠ 0), Dg w (.slice ao m c) (trimP l) := fun h => by
      have e := trimN_of l m (by rw [← HN.out]; exact hm) HZ.out h
      unfold trimP
      rw [e]
      exact HD.out.take hm
    have FIN := hid fin
    clear fin
    rcases m with _ | m
    · have F := hid (FIN.out (fun j x hj => by omega))
      clear FIN
      go_wp2_with fail
      go_ret
      exact ⟨⟨_, rfl, F.out⟩, rfl⟩
    · obtain ⟨x, hx⟩ : ∃ x, l[m]? = some x := ⟨_, List.getElem?_eq_getElem (by rw [← HN.out]; omega)⟩
      obtain ⟨rfl, p0⟩ := HCL.out m x hx
      have HX := hid hx
      clear hx
      have hgt : ((m : Int) + 1 > 0) = True := by rw [eq_iff_iff, iff_true]; omega
      by_cases h0 : x = 0
      · subst h0
        have HZ2 := hid (show ∀ (j : Nat) (x : Int), m ≤ j → l[j]? = some x → x = 0 from fun j y hj hy => by
          by_cases hjm : j = m
          · subst hjm
            rw [HX.out] at hy
            exact (Option.some.inj hy).symm
          · exact HZ.out j y (by omega) hy)
        clear FIN
        go_wp2_with fail
        go_roundw
        case rel => exact ⟨m, by simp, by omega, HZ2.out, rfl⟩
        case measure => simp [RowKit.intOf]
      · have F := hid (FIN.out (fun j y hj hy => by
          obtain rfl : j = m := by omega
          rw [HX.out] at hy
          exact Option.some.inj hy ▸ h0))
        clear FIN
        go_wp2_with fail
        go_ret
        exact ⟨⟨_, rfl, F.out⟩, rfl⟩
end Go.Proofs.YtmmknjpcffaidaaGreatDoor

/- Digits of numbers: rows of ints that a call makes; digits, less, at, ten of the document's arithmetic. No condition. -/
namespace Go.Proofs.YtmmknjpcffaidaaGreatDoor
open Go.RowKit Go.Lib

theorem int_info : (Tryz.prog.info? 3).map (fun i => (i.zero, i.size, i.bytes)) = some (some (.int .i64 0), 1, 8) := by kernel_rfl
def intV (x : Int) : Value := .int .i64 x
/-- a row of ints of the call's own -/
def DgOwn (w : World) (B : Nat) (v : Value) (l : List Int) : Prop := w.ownsRow B 3 1 v l.length (l.map intV)
theorem DgOwn.nil (w : World) (B : Nat) : DgOwn w B (.slice none 0 0) [] := ⟨rfl, .inl ⟨rfl, rfl⟩⟩
theorem DgOwn.view {w : World} {B : Nat} {v : Value} {l : List Int} (h : DgOwn w B v l) : ∃ a m c, v = .slice a m c ∧ m = l.length := by
  obtain ⟨a, c, e, -⟩ := ownsRow_view h
  exact ⟨a, _, c, e, rfl⟩
theorem DgOwn.low {w : World} {B : Nat} {v : Value} {l : List Int} (h : DgOwn w B v l) : ∀ g, v.ownBlock = some g → B ≤ g ∧ g < w.heap.size := ownsRow_low h
theorem DgOwn.below {w w' : World} {B : Nat} {v : Value} {l : List Int} (h : DgOwn w B v l) (hb : Below w.heap.size w w') : DgOwn w' B v l := (Chg.of_below (F := []) hb).owns h (by simp)
theorem DgOwn.read {w : World} {B : Nat} {v : Value} {l : List Int} (h : DgOwn w B v l) (hl : l.length ≤ 1000) : Dg w v l := by
  rcases h.2 with ⟨rfl, h0⟩ | ⟨g, cap, cur, rfl, hb, hg, h1, h2, h3, h4⟩
  · have : l = [] := List.length_eq_zero_iff.1 h0
    subst this
    exact Dg.nil w
  · refine ⟨_, cap, g, 0, rfl, h1, hl, by simp, fun j x hx => ⟨rfl, ?_⟩⟩
    have hjn := (List.getElem?_eq_some_iff.1 hx).1
    have h5 : (l.map intV)[j]? = some (intV x) := by simp [hx]
    rw [← h4, List.getElem?_take_of_lt (by omega)] at h5
    exact cell_of hg (by simpa [intV] using h5)
theorem dg_none (w : World) (oa : Option Addr) (m oc c : Nat) (hc : m ≤ oc) : (Builtin.append_ #[133, 133] 133 #[.slice oa m oc, .slice none 0 c]).run Tryz.prog w = .ok (.slice oa m oc) w := by
  obtain ⟨i0, hi, _, _, _⟩ := info_parts int_info
  cases oa <;> simp [Builtin.append_, run_underlying Tryz.underlying133, sizeOf, typeInfo, hi, Builtin.lenOf, Builtin.firstCells, hc, storeCells]
/-- a row of ints put behind one of the call's own -/
theorem DgOwn.app {w : World} {B : Nat} {ov : Value} {xs : List Int} (h : DgOwn w B ov xs) (hB : B ≤ w.heap.size) {sv : Value} {l : List Int} (hs : Dg w sv l) (hx : xs.length ≤ 1000) :
    ∃ a m c w2, (Builtin.append_ #[133, 133] 133 #[ov, sv]).run Tryz.prog w = .ok (.slice a m c) w2 ∧ m = (xs ++ l).length ∧ DgOwn w2 B (.slice a m c) (xs ++ l) ∧ Chg (own ov) w w2 ∧
      ∀ g, (Value.slice a m c).ownBlock = some g → ov.ownBlock = some g ∨ w.heap.size ≤ g := by
  obtain ⟨i0, hi, hz0, hz1, hz2⟩ := info_parts int_info
  obtain ⟨ao, c, b, off, rfl, h2, h3, h4, h5⟩ := hs
  rcases ao with _ | ad
  · have : l = [] := h4 rfl
    subst this
    obtain ⟨a, m, oc, rfl, hm⟩ := h.view
    obtain ⟨a', n', c', e, hcap, hcap0⟩ := ownsRow_capped h
    injection e with e1 e2 e3
    subst e1 e2 e3
    exact ⟨a, m, oc, w, dg_none w a m oc c hcap, by simp [hm], by simpa using h, Chg.refl _ _, fun g hg => .inl hg⟩
  · obtain ⟨v', w2, a1, a2, a3, _, a5⟩ := run_append_own_at (P := Tryz.prog) w B 133 133 3 i0 (.int .i64 0) 1 8 Tryz.underlying133 hi hz0 hz1 hz2 rfl (by decide) ov xs.length _ h
      ad l.length c (l.map intV) (by simp) (fun j u hu => by
        rw [List.getElem?_map, Option.map_eq_some_iff] at hu
        obtain ⟨y, hy, rfl⟩ := hu
        obtain ⟨e, k2⟩ := h5 j y hy
        obtain rfl := Option.some.inj e
        rw [Addr.add_lit]
        exact k2) (by intro u hu; obtain ⟨y, -, rfl⟩ := List.mem_map.1 hu; rfl) (by unfold maxLen; omega) (by omega) hB
    obtain ⟨a, c2, rfl, _⟩ := ownsRow_view a2
    refine ⟨a, _, c2, w2, a1, by simp, ?_, (Chg.refl _ w).grown a3 (fun k hk => .inl (by simp [own, hk])), fun g hg => ?_⟩
    · unfold DgOwn
      rw [List.length_append, List.map_append]
      exact a2
    · rcases a5 with a5 | a5
      · exact .inl (a5 ▸ hg)
      · rw [hg] at a5
        injection a5 with a5
        exact .inr (by omega)
/-- a fresh block of one int, as a row of the call's own -/
theorem dgOwn_one (w : World) (x : Int) : DgOwn (w.alloc (.cells #[.int .i64 x] 3)) w.heap.size (.slice (some ⟨w.heap.size, 0, none⟩) 1 1) [x] :=
  ⟨rfl, .inr ⟨w.heap.size, 1, #[.int .i64 x], rfl, Nat.le_refl _, heap_alloc_new w _, by simp, by unfold maxLen; omega, by simp, rfl⟩⟩
theorem dg_make (n : Nat) (h : n ≤ 1000) (u : World) : (Instr.makeSlice 133 (.int .i64 (n : Int)) (.int .i64 (n : Int))).run Tryz.prog u =
    .ok (.slice (some ⟨u.heap.size, 0, none⟩) n n) (u.alloc (.cells (List.replicate n (Value.int .i64 0)).toArray 3)) := by
  obtain ⟨i0, hi, hz0, hz1, hz2⟩ := info_parts int_info
  have h := run_make (P := Tryz.prog) u 133 3 i0 (.int .i64 0) Tryz.underlying133 hi hz0 .i64 .i64 (n : Int) (n : Int) (by omega) (Int.le_refl _) (by rw [hz2]; omega) (by omega)
  have e : madeCells #[Value.int .i64 0] n = (List.replicate n (Value.int .i64 0)).toArray := by
    apply Array.ext'
    rw [toList_madeCells_one]
  simpa [hz1, Value.cells, e] using h
theorem dgOwn_made (w : World) (n : Nat) (hn : n ≤ 1000) : DgOwn (w.alloc (.cells (List.replicate n (Value.int .i64 0)).toArray 3)) w.heap.size (.slice (some ⟨w.heap.size, 0, none⟩) n n) (List.replicate n 0) := by
  refine ⟨by simp, .inr ⟨w.heap.size, n, _, by simp, Nat.le_refl _, heap_alloc_new w _, by simp, by unfold maxLen; omega, by simp, ?_⟩⟩
  simp [intV]

set_option maxHeartbeats 400000 in
theorem at_any (w : World) (v : Value) (l : List Int) (h : Dg w v l) (i : Nat) : Calls Tryz.prog 295 #[v, .int .i64 (i : Int)] w fun e w' => e = .returned (.int .i64 ((l[i]?).getD 0)) ∧ w = w' := by
  obtain ⟨ao, n, c, b, off, rfl, hn, hc, hn2, hn0, hcl⟩ := h.view
  go_enter Tryz.func295, Tryz.ntmps295
  by_cases hi : i < n
  · obtain ⟨x, hx⟩ : ∃ x, l[i]? = some x := ⟨_, List.getElem?_eq_getElem (by omega)⟩
    obtain ⟨rfl, p0⟩ := hcl i x hx
    have hd : ((i : Int) < (n : Int)) = True := by rw [eq_iff_iff, iff_true]; omega
    rw [hx]
    clear hcl hx h
    go_wp2_with fail
    go_ret
    exact ⟨rfl, rfl⟩
  · have hd : ((i : Int) < (n : Int)) = False := by rw [eq_iff_iff, iff_false]; omega
    rw [List.getElem?_eq_none (by omega)]
    clear hcl h
    go_wp2_with fail
    go_ret
    exact ⟨rfl, rfl⟩

set_option maxHeartbeats 400000 in
theorem less_len (w : World) (v u : Value) (l k : List Int) (h : Dg w v l) (hk : Dg w u k) (hne : l.length ≠ k.length) : Calls Tryz.prog 244 #[v, u] w fun e w' => e = .returned (.bool (decide (l.length < k.length))) ∧ w = w' := by
  obtain ⟨ao, n, c, b, off, rfl, hn, -, hn2, -, -⟩ := h.view
  obtain ⟨ao', n', c', b', off', rfl, hn', -, hn2', -, -⟩ := hk.view
  rw [← hn, ← hn'] at hne ⊢
  clear h hk hn hn'
  go_enter Tryz.func244, Tryz.ntmps244
  have hd : ¬ ((n : Int) = (n' : Int)) := by omega
  by_cases hlt : n < n'
  · have hd2 : ((n : Int) < (n' : Int)) = True := by rw [eq_iff_iff, iff_true]; omega
    rw [decide_eq_true hlt]
    go_wp2_with fail
    go_ret
    exact ⟨rfl, rfl⟩
  · have hd2 : ((n : Int) < (n' : Int)) = False := by rw [eq_iff_iff, iff_false]; omega
    rw [decide_eq_false hlt]
    go_wp2_with fail
    go_ret
    exact ⟨rfl, rfl⟩
def LessRel (w : World) (n : Nat) (iv : Value) (wr : World) : Prop := ∃ m : Nat, iv = .int .i64 ((m : Int) - 1) ∧ m ≤ n ∧ Below w.heap.size w wr
set_option maxHeartbeats 1000000 in
theorem less_same (w : World) (v u : Value) (l : List Int) (h : Dg w v l) (hk : Dg w u l) : Calls Tryz.prog 244 #[v, u] w fun e w' => e = .returned (.bool false) ∧ Below w.heap.size w w' := by
  obtain ⟨ao, n, c, b, off, rfl, hn, -, hn2, -, hcl⟩ := h.view
  obtain ⟨ao', n', c', b', off', rfl, hn', -, hn2', -, hcl'⟩ := hk.view
  obtain rfl : n = n' := by omega
  have HN := hid hn
  have HC := hid hcl
  have HC' := hid hcl'
  clear h hk hn hn' hcl hcl'
  go_enter Tryz.func244, Tryz.ntmps244
  go_wp2_with fail
  go_loopw [5] (fun iv wr => LessRel w n iv wr) (fun iv _ => (RowKit.intOf iv + 1).toNat)
  case atStart => exact ⟨n, rfl, Nat.le_refl _, Below.refl _ _⟩
  case round =>
    obtain ⟨m, rfl, hm, hb⟩ := hrel
    have HB := hid hb
    clear hb
    rcases m with _ | m
    · go_wp2_with fail
      go_ret
      exact ⟨rfl, HB.out⟩
    · obtain ⟨x, hx⟩ : ∃ x, l[m]? = some x := ⟨_, List.getElem?_eq_getElem (by rw [← HN.out]; omega)⟩
      obtain ⟨rfl, p0⟩ := HC.out m x hx
      obtain ⟨rfl, q0⟩ := HC'.out m x hx
      have r0 := (HB.out.cell (World.block_lt_of_cell? _ _ p0)).trans p0
      have s0 := (HB.out.cell (World.block_lt_of_cell? _ _ q0)).trans q0
      clear p0 q0 hx
      have e1 : (((m + 1 : Nat) : Int) - 1) = (m : Int) := by omega
      rw [e1]
      clear e1
      have hge : ((m : Int) ≥ 0) = True := by rw [eq_iff_iff, iff_true]; omega
      go_wp2_with fail
      go_quiet (fail)
      go_wp2_with fail
      go_roundw
      case rel => exact ⟨m, by simp, by omega, below_drewN HB.out _⟩
      case measure => simp [RowKit.intOf]

set_option maxRecDepth 20000 in
set_option maxHeartbeats 400000 in
theorem ten_any (w : World) (v : Value) (l : List Int) (h : Dg w v l) (h0 : l ≠ []) (hl : l.length ≤ 500) (n : Int) (k : Nat) (hk : k ≤ 500) (hnk : max n 0 = (k : Int)) :
    Calls Tryz.prog 242 #[v, .int .i64 n] w fun e w' => (∃ ov, e = .returned ov ∧ Dg w' ov (List.replicate k 0 ++ l)) ∧ Below w.heap.size w w' := by
  have O1 := dgOwn_made w k (by omega)
  obtain ⟨a2, m2, c2, w2, happ, hm2, O2, ch2, -⟩ := O1.app (by simp) (h.below ((Below.refl _ w).alloc (Nat.le_refl _) _)) (by simp; omega)
  have R2 := hid (O2.read (by simp; omega))
  have B2 := hid (show Below w.heap.size w w2 from ((Below.refl _ w).alloc (Nat.le_refl _) _).trans (ch2.below (B := w.heap.size) (fun g hg => by simp [own, Value.ownBlock] at hg; omega) (by simp)))
  have hmk := dg_make k (by omega)
  obtain ⟨ao, m, c, b, off, rfl, hm, -, hm3, -, hcl⟩ := h.view
  obtain ⟨x, hx⟩ : ∃ x, l[0]? = some x := by
    cases l with
    | nil => exact absurd rfl h0
    | cons y l => exact ⟨y, rfl⟩
  obtain ⟨rfl, -⟩ := hcl 0 x hx
  have hd : ¬ ((m : Int) = 0) := by
    intro hh
    exact h0 (List.length_eq_zero_iff.1 (by omega))
  clear h O1 O2 ch2 h0 hm hx hcl hm2
  go_enter Tryz.func242, Tryz.ntmps242
  go_wp2_with (at_builtin; refine wpList_append_run rfl _ _ _ rfl _ _ rfl rfl happ ?_)
  go_ret
  exact ⟨⟨_, rfl, R2.out⟩, B2.out⟩

theorem digs_pos {N : Nat} {k : Nat} (h : N / 10 ^ k ≠ 0) : N / 10 ^ (k + 1) < N / 10 ^ k := by
  rw [Nat.pow_succ, ← Nat.div_div_eq_div_mul]
  exact Nat.div_lt_self (Nat.pos_of_ne_zero h) (by omega)
/-- so many digits of a number -/
def dgsL (N k : Nat) : List Int := (List.range k).map fun i => ((N / 10 ^ i % 10 : Nat) : Int)
theorem dgsL_succ (N k : Nat) : dgsL N (k + 1) = dgsL N k ++ [((N / 10 ^ k % 10 : Nat) : Int)] := by simp [dgsL, List.range_succ]
theorem dgsL_length (N k : Nat) : (dgsL N k).length = k := by simp [dgsL]
def DigRel (w : World) (N : Nat) (ov iv : Value) (wr : World) : Prop := ∃ k : Nat, iv = .int .i64 ((N / 10 ^ k : Nat) : Int) ∧ k ≤ 20 ∧ (∀ j, j < k → N / 10 ^ j ≠ 0) ∧ DgOwn wr w.heap.size ov (dgsL N k) ∧ Below w.heap.size w wr
set_option maxRecDepth 20000 in
set_option maxHeartbeats 1000000 in
theorem digits_any (w : World) (N : Nat) (hN : N < 10 ^ 18) : Calls Tryz.prog 296 #[.int .i64 (N : Int)] w fun e w' => (∃ ov k, e = .returned ov ∧ Dg w' ov (dgsL N k) ∧ N / 10 ^ k = 0 ∧ ∀ j, j < k → N / 10 ^ j ≠ 0) ∧ Below w.heap.size w w' := by
  have H0 := hid (show DigRel w N (.slice none 0 0) (.int .i64 (N : Int)) w from ⟨0, by simp, by omega, by simp, DgOwn.nil _ _, Below.refl _ _⟩)
  have HN := hid hN
  clear hN
  go_enter Tryz.func296, Tryz.ntmps296
  go_wp2_with fail
  go_loopw [3, 0] (fun ov iv wr => DigRel w N ov iv wr) (fun _ iv _ => (RowKit.intOf iv).toNat)
  case atStart => exact H0.out
  case round =>
    obtain ⟨k, rfl, hk, hj, O, hb⟩ := hrel
    obtain ⟨oa, om, oc, rfl, hom⟩ := O.view
    have HK := hid hj
    have HO := hid O
    have HB := hid hb
    clear hj hb O H0
    by_cases hz : N / 10 ^ k = 0
    · have R := hid (HO.out.read (by rw [dgsL_length]; omega))
      have HZ := hid hz
      rw [hz]
      clear hz hom
      go_wp2_with fail
      go_ret
      exact ⟨⟨_, k, rfl, R.out, HZ.out, HK.out⟩, HB.out⟩
    · obtain ⟨m, hm⟩ : ∃ m, m = N / 10 ^ k := ⟨_, rfl⟩
      have HM := hid hm
      rw [← hm]
      have h18 : k < 18 := by
        by_cases h : k < 18
        · exact h
        · exfalso
          have := HN.out
          have h1 : 10 ^ 18 ≤ 10 ^ k := Nat.pow_le_pow_right (by omega) (by omega)
          rw [Nat.div_eq_of_lt (by omega)] at hz
          exact hz rfl
      have hmN : m ≤ N := by rw [hm]; exact Nat.div_le_self _ _
      have hmb : m < 1000000000000000000 := Nat.lt_of_le_of_lt hmN HN.out
      have h1 : ¬ ((m : Int) = 0) := by
        intro h
        exact hz (by omega)
      have h3 : ((m : Int) % 10 < 0) = False := by rw [eq_iff_iff, iff_false]; omega
      have bA : Below wr.heap.size wr (wr.alloc (.cells #[.int .i64 ((m : Int) % 10)] 3)) := (Below.refl _ wr).alloc (Nat.le_refl _) _
      obtain ⟨a2, m2, c2, w2, happ, hm2, O2, ch2, -⟩ := (HO.out.below bA).app (by have := HB.out.size; simp; omega) ((dgOwn_one wr ((m : Int) % 10)).read (by simp)) (by rw [dgsL_length]; omega)
      have R := hid (show DigRel w N (.slice a2 m2 c2) (.int .i64 ((m : Int) / 10)) w2 from by
        refine ⟨k + 1, ?_, by omega, fun j hj => ?_, ?_, ?_⟩
        · rw [Nat.pow_succ, ← Nat.div_div_eq_div_mul, ← HM.out]
          simp
        · by_cases e : j = k
          · subst e; exact hz
          · exact HK.out j (by omega)
        · rw [dgsL_succ, ← HM.out]
          simpa using O2
        · refine (HB.out.trans (bA.mono HB.out.size)).trans (ch2.below (fun g hg => ?_) (by have := HB.out.size; simp; omega))
          exact (HO.out.low g (by simpa [own] using hg)).1)
      clear hz hm hom O2 ch2 hm2 bA
      go_wp2_with (at_builtin; refine wpList_append_run rfl _ _ _ rfl _ _ rfl rfl happ ?_)
      go_roundw
      case rel => exact R.out
      case measure => simp [RowKit.intOf]; omega
end Go.Proofs.YtmmknjpcffaidaaGreatDoor

/- The document's decimals at one: plus of nothing, minus of one and one, by one, value, lowest. No condition. -/
namespace Go.Proofs.YtmmknjpcffaidaaGreatDoor
open Go.RowKit Go.Lib

set_option maxHeartbeats 400000 in
theorem plus_none (w : World) (v u : Value) (h : Dg w v []) (hk : Dg w u []) : Calls Tryz.prog 294 #[v, u] w fun e w' => (∃ ov, e = .returned ov ∧ Dg w' ov []) ∧ w = w' := by
  obtain ⟨ao, n, c, b, off, rfl, hn, -, -, -, -⟩ := h.view
  obtain ⟨ao', n', c', b', off', rfl, hn', -, -, -, -⟩ := hk.view
  simp only [List.length_nil] at hn hn'
  subst hn hn'
  clear h hk
  go_enter Tryz.func294, Tryz.ntmps294
  go_wp2_with fail
  refine wp_loop_rounds 1 ?_
  rw [rounds_succ]
  go_wp2_with fail
  refine (trim_any _ _ _ (Dg.nil w)).mono ?_
  rintro e w' ⟨⟨ov, rfl, ho⟩, rfl⟩
  go_wp2_with fail
  go_ret
  exact ⟨⟨_, rfl, ho⟩, rfl⟩

set_option maxRecDepth 20000 in
set_option maxHeartbeats 1000000 in
theorem minus_one (w : World) (v u : Value) (h : Dg w v [1]) (hk : Dg w u [1]) : Calls Tryz.prog 342 #[v, u] w fun e w' => (∃ ov, e = .returned ov ∧ Dg w' ov []) ∧ Below w.heap.size w w' := by
  obtain ⟨ao, n, c, b, off, rfl, hn, -, -, -, hc⟩ := h.view
  obtain rfl : n = 1 := by simpa using hn
  have HAT : Hid (∀ (n : Nat), Calls Tryz.prog 295 #[u, .int .i64 0] (w.drewN n) fun e w' => e = .returned (.int .i64 1) ∧ w' = w.drewN n) := hid (fun n => (at_any _ _ [1] (hk.below (below_drewN (Below.refl _ _) _)) 0).mono (fun _ _ h => ⟨h.1, h.2.symm⟩))
  obtain ⟨ao', n', c', b', off', rfl, hn', -, -, -, -⟩ := hk.view
  obtain rfl : n' = 1 := by simpa using hn'
  obtain ⟨rfl, p0⟩ := hc 0 1 rfl
  simp only [Nat.add_zero] at p0
  have HQ : Hid (∀ (y : World), Below w.heap.size w y → ∃ a c w2, (Builtin.append_ #[133, 133] 133 #[.slice none 0 0, .slice (some ⟨y.heap.size, 0, none⟩) 1 1]).run Tryz.prog (y.alloc (.cells #[.int .i64 0] 3)) = .ok (.slice a 1 c) w2 ∧ Dg w2 (.slice a 1 c) [0] ∧ Below w.heap.size w w2) := hid (by
    intro y hb
    obtain ⟨a2, m2, c2, w2, happ, hm2, O2, ch2, -⟩ := (DgOwn.nil (y.alloc (.cells #[.int .i64 0] 3)) w.heap.size).app (by have := hb.size; simp; omega) ((dgOwn_one y 0).read (by simp)) (by simp)
    obtain rfl : m2 = 1 := by simpa using hm2
    exact ⟨a2, c2, w2, happ, O2.read (by simp), (hb.trans ((Below.refl _ _).alloc hb.size _)).trans (ch2.below (fun g hg => by simp [own, Value.ownBlock] at hg) (by have := hb.size; simp; omega))⟩)
  clear h hk hc hn hn'
  go_enter Tryz.func342, Tryz.ntmps342
  go_wp2_with fail
  refine wp_loop_rounds 2 ?_
  rw [rounds_succ]
  go_wp2_with fail
  go_quiet (first | (go_at_call 295; refine Calls.quiet_of_same (HAT.out _)))
  generalize hg : World.drewN w _ = y
  have HB := hid (show Below w.heap.size w y from hg ▸ below_drewN (Below.refl _ _) _)
  clear hg
  obtain ⟨a2, c2, w2, happ, D2, b2⟩ := HQ.out y HB.out
  have HD2 := hid D2
  have HB2 := hid b2
  clear D2 b2
  go_wp2_with (at_builtin; refine wpList_append_run rfl _ _ _ rfl _ _ rfl rfl happ ?_)
  rw [rounds_succ]
  go_wp2_with fail
  refine (trim_any _ _ _ HD2.out).mono ?_
  rintro e w' ⟨⟨ov, rfl, ho⟩, rfl⟩
  go_wp2_with fail
  go_ret
  exact ⟨⟨_, rfl, ho⟩, HB2.out⟩

/-- ten to so much, as digits -/
def tenL (k : Nat) : List Int := List.replicate k 0 ++ [1]
theorem tenL_length (k : Nat) : (tenL k).length = k + 1 := by simp [tenL]
/-- what by has behind it, when so many digits are left of ten to k: the quotient's digits -/
def qL (k m : Nat) : List Int := if m = k + 1 then [] else tenL (k - m)
def ByRel (w : World) (k : Nat) (qv rv iv : Value) (wr : World) : Prop := ∃ m : Nat, iv = .int .i64 ((m : Int) - 1) ∧ m ≤ k + 1 ∧ Dg wr qv (qL k m) ∧ Dg wr rv [] ∧ Below w.heap.size w wr
theorem trim_ten (k : Nat) : trimP (tenL k) = tenL k := by
  have h : trimN (tenL k) = k + 1 := by
    apply trimN_of
    · rw [tenL_length]; omega
    · intro j x hj hx
      rw [List.getElem?_eq_none (by rw [tenL_length]; omega)] at hx
      cases hx
    · intro j x hj hx
      obtain rfl : j = k := by omega
      rw [tenL, List.getElem?_append_right (by simp)] at hx
      simp at hx
      omega
  unfold trimP
  rw [h, List.take_of_length_le (by rw [tenL_length]; omega)]
theorem trim_nil : trimP [] = [] := rfl
theorem trim_zero : trimP [0] = [] := rfl
theorem trim_uno : trimP [1] = [1] := rfl
/-- one int put ahead of a row -/
theorem dg_ahead (y : World) (x : Int) (v : Value) (l : List Int) (h : Dg y v l) (hl : l.length ≤ 900) :
    ∃ a m c w2, (Builtin.append_ #[133, 133] 133 #[.slice (some ⟨y.heap.size, 0, none⟩) 1 1, v]).run Tryz.prog (y.alloc (.cells #[.int .i64 x] 3)) = .ok (.slice a m c) w2 ∧ Dg w2 (.slice a m c) (x :: l) ∧ Below y.heap.size y w2 := by
  obtain ⟨a2, m2, c2, w2, happ, hm2, O2, ch2, -⟩ := (dgOwn_one y x).app (by simp) (h.below ((Below.refl _ y).alloc (Nat.le_refl _) _)) (by simp)
  exact ⟨a2, m2, c2, w2, happ, O2.read (by simp; omega), ((Below.refl _ y).alloc (Nat.le_refl _) _).trans (ch2.below (fun g hg => by simp [own, Value.ownBlock] at hg; omega) (by simp))⟩

set_option maxRecDepth 20000 in
set_option maxHeartbeats 2000000 in
theorem by_one (w : World) (v u : Value) (k : Nat) (hk : k ≤ 100) (h : Dg w v (tenL k)) (hu : Dg w u [1]) : Calls Tryz.prog 293 #[v, u] w fun e w' => (∃ qv rv, e = .returned (.tuple #[qv, rv]) ∧ Dg w' qv (tenL k) ∧ Dg w' rv []) ∧ Below w.heap.size w w' := by
  have HV := hid h
  have HU := hid hu
  obtain ⟨ao, n, c, b, off, rfl, hn, -, -, -, hcl⟩ := h.view
  rw [tenL_length] at hn
  subst hn
  have HCL := hid hcl
  clear h hcl hu
  go_enter Tryz.func293, Tryz.ntmps293
  go_wp2_with fail
  rename_i K hK
  have HC := hid hK
  clear hK
  have H0 := hid (show ByRel w k (.slice none 0 0) (.slice none 0 0) (.int .i64 (((k + 1 : Nat) : Int) - 1)) w from ⟨k + 1, rfl, by omega, by unfold qL; rw [if_pos rfl]; exact Dg.nil w, Dg.nil w, Below.refl _ _⟩)
  go_loopw [6, 7, 8] (fun qv rv iv wr => ByRel w k qv rv iv wr) (fun _ _ iv _ => (RowKit.intOf iv + 1).toNat)
  case atStart => simpa using H0.out
  case round =>
    obtain ⟨m, rfl, hm, hq, hr, hb⟩ := hrel
    have HQ := hid hq
    have HR := hid hr
    have HB := hid hb
    obtain ⟨qa, qn, qc, qb, qo, rfl, hqn, -⟩ := hq.view
    obtain ⟨ra, rn, rc, rb, ro, rfl, hrn, -⟩ := hr.view
    clear hq hr hb H0
    rcases m with _ | m
    · have e : qL k 0 = tenL k := by unfold qL; rw [if_neg (by omega)]; rfl
      have HQ2 := hid (e ▸ HQ.out)
      have HT := hid (trim_any wr _ _ HQ2.out)
      rw [trim_ten] at HT
      clear HQ e hqn hrn
      go_wp2_with fail
      refine HC.out _ _ ?_
      go_wp2_with fail
      refine HT.out.mono ?_
      rintro e w' ⟨⟨ov, rfl, ho⟩, rfl⟩
      go_wp2_with fail
      go_ret2
      exact ⟨⟨_, _, rfl, ho, HR.out⟩, HB.out⟩
    · have e1 : (((m + 1 : Nat) : Int) - 1) = (m : Int) := by omega
      rw [e1]
      clear e1
      have hge : ((m : Int) ≥ 0) = True := by rw [eq_iff_iff, iff_true]; omega
      by_cases hmk : m = k
      · have hx : (tenL k)[m]? = some 1 := by rw [hmk, tenL, List.getElem?_append_right (by simp)]; simp
        obtain ⟨rfl, p0⟩ := HCL.out m 1 hx
        have r0 := (HB.out.cell (World.block_lt_of_cell? _ _ p0)).trans p0
        obtain ⟨a2, m2, c2, w2, happ, D2, b2⟩ := dg_ahead wr 1 _ _ HR.out (by simp)
        have B2 := hid (HB.out.trans (b2.mono HB.out.size))
        have HQ2 := hid (HQ.out.below b2)
        have HT := hid (trim_any w2 _ _ D2)
        rw [trim_uno] at HT
        have HU2 := hid (HU.out.below B2.out)
        have HQE := hid (show qL k m = [1] from by unfold qL; rw [if_neg (by omega), hmk, Nat.sub_self]; rfl)
        rw [show qL k (m + 1) = [] from by unfold qL; rw [if_pos (by omega)]] at HQ2
        have HMK := hid hmk
        clear p0 hx D2 b2 HQ HR HB hqn hrn HCL hmk
        go_wp2_with (at_builtin; refine wpList_append_run rfl _ _ _ rfl _ _ rfl rfl happ ?_)
        refine HT.out.mono ?_
        rintro e w' ⟨⟨ov, rfl, ho⟩, rfl⟩
        have HO := hid ho
        obtain ⟨oa, on, oc, ob, oo, rfl, -⟩ := ho.view
        clear happ HT ho
        go_wp2_with fail
        refine wp_loop_rounds 2 ?_
        rw [rounds_succ]
        go_wp2_with fail
        refine (less_same _ _ _ _ HO.out HU2.out).mono ?_
        rintro e w3 ⟨rfl, b3⟩
        have HO3 := hid (HO.out.below b3)
        have HU3 := hid (HU2.out.below b3)
        have HQ3 := hid (HQ2.out.below b3)
        have B3 := hid (B2.out.trans (b3.mono B2.out.size))
        clear b3 HO HU2 HQ2 B2
        go_wp2_with fail
        refine (minus_one _ _ _ HO3.out HU3.out).mono ?_
        rintro e w4 ⟨⟨ov, rfl, ho⟩, b4⟩
        have HO4 := hid ho
        obtain ⟨oa4, on4, oc4, ob4, oo4, rfl, -⟩ := ho.view
        have HU4 := hid (HU3.out.below b4)
        have HQ4 := hid (HQ3.out.below b4)
        have B4 := hid (B3.out.trans (b4.mono B3.out.size))
        clear b4 HO3 HU3 HQ3 B3 ho
        go_wp2_with fail
        rw [rounds_succ]
        go_wp2_with fail
        refine (less_len _ _ _ _ _ HO4.out HU4.out (by simp)).mono ?_
        rintro e w5 ⟨rfl, rfl⟩
        obtain ⟨a6, m6, c6, w6, happ, D6, b6⟩ := dg_ahead w4 1 _ _ HQ4.out (by simp)
        have R := hid (show ByRel w k (.slice a6 m6 c6) (.slice oa4 on4 oc4) (.int .i64 ((m : Int) - 1)) w6 from ⟨m, rfl, by have := HMK.out; omega, by rw [HQE.out]; exact D6, HO4.out.below b6, B4.out.trans (b6.mono B4.out.size)⟩)
        clear D6 b6 HQ4 HU4 HO4 B4
        go_wp2_with (at_builtin; refine wpList_append_run rfl _ _ _ rfl _ _ rfl rfl happ ?_)
        go_roundw
        case rel => exact R.out
        case measure => simp [RowKit.intOf]
      · have hx : (tenL k)[m]? = some 0 := by
          have hl : m < k := by omega
          rw [tenL, List.getElem?_append_left (by rw [List.length_replicate]; exact hl), List.getElem?_replicate, if_pos hl]
        obtain ⟨rfl, p0⟩ := HCL.out m 0 hx
        have r0 := (HB.out.cell (World.block_lt_of_cell? _ _ p0)).trans p0
        obtain ⟨a2, m2, c2, w2, happ, D2, b2⟩ := dg_ahead wr 0 _ _ HR.out (by simp)
        have B2 := hid (HB.out.trans (b2.mono HB.out.size))
        have HQ2 := hid (HQ.out.below b2)
        have HT := hid (trim_any w2 _ _ D2)
        rw [trim_zero] at HT
        have HU2 := hid (HU.out.below B2.out)
        have HQE := hid (show qL k m = 0 :: qL k (m + 1) from by
          unfold qL
          rw [if_neg (by omega), if_neg (by omega), show k - m = (k - (m + 1)) + 1 by omega]
          rfl)
        have hql : (qL k (m + 1)).length ≤ 900 := by unfold qL; rw [if_neg (by omega), tenL_length]; omega
        have HMK := hid hmk
        clear p0 hx D2 b2 HQ HR HB hqn hrn HCL hmk
        go_wp2_with (at_builtin; refine wpList_append_run rfl _ _ _ rfl _ _ rfl rfl happ ?_)
        refine HT.out.mono ?_
        rintro e w' ⟨⟨ov, rfl, ho⟩, rfl⟩
        have HO := hid ho
        obtain ⟨oa, on, oc, ob, oo, rfl, -⟩ := ho.view
        clear happ HT ho
        go_wp2_with fail
        refine wp_loop_rounds 1 ?_
        rw [rounds_succ]
        go_wp2_with fail
        refine (less_len _ _ _ _ _ HO.out HU2.out (by simp)).mono ?_
        rintro e w5 ⟨rfl, rfl⟩
        obtain ⟨a6, m6, c6, w6, happ, D6, b6⟩ := dg_ahead w2 0 _ _ HQ2.out hql
        have R := hid (show ByRel w k (.slice a6 m6 c6) (.slice oa on oc) (.int .i64 ((m : Int) - 1)) w6 from ⟨m, rfl, by have := HMK.out; omega, by rw [HQE.out]; exact D6, HO.out.below b6, B2.out.trans (b6.mono B2.out.size)⟩)
        clear D6 b6 HQ2 HU2 HO B2 hql
        go_wp2_with (at_builtin; refine wpList_append_run rfl _ _ _ rfl _ _ rfl rfl happ ?_)
        go_roundw
        case rel => exact R.out
        case measure => simp [RowKit.intOf]
end Go.Proofs.YtmmknjpcffaidaaGreatDoor

/- The document's decimals at the text "1": value, lowest, near, whole, unit, figures, Read. No condition. -/
namespace Go.Proofs.YtmmknjpcffaidaaGreatDoor
open Go.RowKit Go.Lib

theorem tenL_low {k j : Nat} (h : j < k) : (tenL k)[j]? = some 0 := by
  rw [tenL, List.getElem?_append_left (by rw [List.length_replicate]; exact h), List.getElem?_replicate, if_pos h]
theorem tenL_top (k : Nat) : (tenL k)[k]? = some 1 := by
  rw [tenL, List.getElem?_append_right (by simp)]; simp
/-- the value of the digits from m on -/
def valN (k m : Nat) : Nat := if m = k + 1 then 0 else 10 ^ (k - m)
theorem valN_le {k m : Nat} (hk : k ≤ 15) : valN k m ≤ 1000000000000000 := by
  unfold valN
  split
  · omega
  · exact Nat.le_trans (Nat.pow_le_pow_right (by omega) (show k - m ≤ 15 by omega)) (by decide)
def ValRel (w : World) (k : Nat) (nv iv : Value) (wr : World) : Prop := ∃ m : Nat, iv = .int .i64 ((m : Int) - 1) ∧ nv = .int .i64 ((valN k m : Nat) : Int) ∧ m ≤ k + 1 ∧ w = wr
set_option maxHeartbeats 1000000 in
theorem value_ten (w : World) (v : Value) (k : Nat) (hk : k ≤ 15) (h : Dg w v (tenL k)) : Calls Tryz.prog 298 #[v] w fun e w' => e = .returned (.int .i64 ((10 ^ k : Nat) : Int)) ∧ w = w' := by
  obtain ⟨ao, n, c, b, off, rfl, hn, -, -, -, hcl⟩ := h.view
  rw [tenL_length] at hn
  subst hn
  have HCL := hid hcl
  obtain ⟨rv, hrv⟩ : ∃ rv, rv = 10 ^ k := ⟨_, rfl⟩
  rw [← hrv]
  have HRV := hid hrv
  have H0 := hid (show ValRel w k (.int .i64 0) (.int .i64 (((k + 1 : Nat) : Int) - 1)) w from ⟨k + 1, rfl, by unfold valN; rw [if_pos rfl]; rfl, by omega, rfl⟩)
  clear h hcl hrv
  go_enter Tryz.func298, Tryz.ntmps298
  go_wp2_with fail
  go_loopw [3, 4] (fun nv iv wr => ValRel w k nv iv wr) (fun _ iv _ => (RowKit.intOf iv + 1).toNat)
  case atStart => simpa using H0.out
  case round =>
    obtain ⟨m, rfl, rfl, hm, rfl⟩ := hrel
    clear H0
    rcases m with _ | m
    · have e : valN k 0 = rv := by unfold valN; rw [if_neg (by omega), HRV.out]; rfl
      rw [e]
      clear e
      go_wp2_with fail
      go_ret
      exact ⟨rfl, rfl⟩
    · have e1 : (((m + 1 : Nat) : Int) - 1) = (m : Int) := by omega
      rw [e1]
      clear e1
      have hge : ((m : Int) ≥ 0) = True := by rw [eq_iff_iff, iff_true]; omega
      have hv := valN_le (m := m + 1) hk
      by_cases hmk : m = k
      · obtain ⟨rfl, p0⟩ := HCL.out m 1 (by rw [hmk]; exact tenL_top k)
        have R := hid (show ValRel w k (.int .i64 1) (.int .i64 ((m : Int) - 1)) w from ⟨m, rfl, by unfold valN; rw [if_neg (by omega), hmk, Nat.sub_self]; rfl, by omega, rfl⟩)
        rw [show valN k (m + 1) = 0 from by unfold valN; rw [if_pos (by omega)]]
        clear hmk hv HCL
        go_wp2_with fail
        go_roundw
        case rel => exact R.out
        case measure => simp [RowKit.intOf]
      · obtain ⟨rfl, p0⟩ := HCL.out m 0 (tenL_low (by omega))
        obtain ⟨x, hx⟩ : ∃ x, x = valN k (m + 1) := ⟨_, rfl⟩
        rw [← hx] at hv ⊢
        have R := hid (show ValRel w k (.int .i64 (10 * (x : Int))) (.int .i64 ((m : Int) - 1)) w from ⟨m, rfl, by
          have : valN k m = 10 * x := by
            rw [hx]
            unfold valN
            rw [if_neg (by omega), if_neg (by omega), show k - m = (k - (m + 1)) + 1 by omega, Nat.pow_succ, Nat.mul_comm]
          rw [this]
          simp, by omega, rfl⟩)
        clear hmk hx HCL
        go_wp2_with fail
        go_roundw
        case rel => exact R.out
        case measure => simp [RowKit.intOf]

set_option maxRecDepth 20000 in
set_option maxHeartbeats 1000000 in
theorem lowest_ten (w : World) : Calls Tryz.prog 297 #[.int .i64 1000000000, .int .i64 (-9)] w fun e w' => e = .returned (.agg #[.int .i64 1, .int .i64 0]) ∧ Below w.heap.size w w' := by
  go_enter Tryz.func297, Tryz.ntmps297
  go_wp2_with fail
  refine wp_loop_rounds 10 ?_
  rw [rounds_succ]
  go_wp2_with fail
  rw [rounds_succ]
  go_wp2_with fail
  rw [rounds_succ]
  go_wp2_with fail
  rw [rounds_succ]
  go_wp2_with fail
  rw [rounds_succ]
  go_wp2_with fail
  rw [rounds_succ]
  go_wp2_with fail
  rw [rounds_succ]
  go_wp2_with fail
  rw [rounds_succ]
  go_wp2_with fail
  rw [rounds_succ]
  go_wp2_with fail
  rw [rounds_succ]
  go_wp2_with fail
  refine bodyPost_ret (v := .agg #[.int .i64 1, .int .i64 0]) (by simp [results, Tryz.results297, go_sem, *]) rfl ?_
  exact ⟨rfl, (Below.refl _ w).alloc (Nat.le_refl _) _⟩

/-- what stands while a decimal is reckoned -/
structure Nr (w : World) (g : Nat) (y : World) : Prop where
  dec : y.heap[g]? = some (.cells #[.int .i64 0, .int .i64 0] 103 (0, 0))
  low : Below w.heap.size w y
theorem Nr.keep {w y z : World} {g : Nat} (h : Nr w g y) (hb : Below y.heap.size y z) : Nr w g z := ⟨(hb.block _ (heap_lt h.dec)).trans h.dec, h.low.trans (hb.mono h.low.size)⟩

theorem digs_max {k : Nat} (h0 : 999999999999999 / 10 ^ k = 0) : 11 ≤ k := by
  by_cases h : 11 ≤ k
  · exact h
  · exfalso
    have h1 : 10 ^ k ≤ 10 ^ 10 := Nat.pow_le_pow_right (by omega) (by omega)
    have h2 : 999999999999999 / 10 ^ 10 ≤ 999999999999999 / 10 ^ k := Nat.div_le_div_left h1 (Nat.pow_pos (by omega))
    omega

set_option maxRecDepth 20000 in
set_option maxHeartbeats 2000000 in
theorem near_one (w : World) (v u : Value) (h : Dg w v [1]) (hu : Dg w u [1]) : Calls Tryz.prog 240 #[.bool false, v, u] w fun e w' => e = .returned (.tuple #[.agg #[.int .i64 1, .int .i64 0], .int .i64 0]) ∧ Below w.heap.size w w' := by
  have HV := hid h
  have HU := hid hu
  obtain ⟨va, vn, vc, vb, vo, rfl, -⟩ := h.view
  obtain ⟨ua, un, uc, ub, uo, rfl, -⟩ := hu.view
  have H1 := hid (show Nr w w.heap.size (w.alloc (.cells #[.int .i64 0, .int .i64 0] 103)) from ⟨heap_alloc_new w _, (Below.refl _ w).alloc (Nat.le_refl _) _⟩)
  clear h hu
  go_enter Tryz.func240, Tryz.ntmps240
  go_wp2_with fail
  obtain ⟨g, hg⟩ : ∃ g, g = w.heap.size := ⟨_, rfl⟩
  rw [← hg] at H1 ⊢
  have HGE := hid (show w.heap.size ≤ g by omega)
  clear hg
  generalize World.alloc _ _ = w1 at H1 ⊢
  refine wp_loop_rounds 1 ?_
  rw [rounds_succ]
  go_wp2_with fail
  refine (ten_any _ _ [1] (HU.out.below H1.out.low) (by simp) (by simp) (-9) 0 (by omega) (by decide)).mono ?_
  rintro e w2 ⟨⟨dv, rfl, hd⟩, b2⟩
  have H2 := hid (H1.out.keep b2)
  have HD2 := hid hd
  obtain ⟨da, dn, dc, db, do', rfl, -⟩ := hd.view
  clear b2 H1 hd HU
  go_wp2_with fail
  refine (ten_any _ _ [1] (HV.out.below H2.out.low) (by simp) (by simp) 9 9 (by omega) (by decide)).mono ?_
  rintro e w3 ⟨⟨nv, rfl, hn⟩, b3⟩
  have H3 := hid (H2.out.keep b3)
  have HD3 := hid (HD2.out.below b3)
  have HN3 := hid hn
  obtain ⟨na, nn, nc, nb, no, rfl, -⟩ := hn.view
  clear b3 H2 HD2 hn HV
  go_wp2_with fail
  refine (by_one _ _ _ 9 (by omega) HN3.out HD3.out).mono ?_
  rintro e w4 ⟨⟨qv, rv, rfl, hq, hr⟩, b4⟩
  have H4 := hid (H3.out.keep b4)
  have HD4 := hid (HD3.out.below b4)
  have HQ4 := hid hq
  have HR4 := hid hr
  obtain ⟨qa, qn, qc, qb, qo, rfl, -⟩ := hq.view
  obtain ⟨ra, rn, rc, rb, ro, rfl, -⟩ := hr.view
  clear b4 H3 HD3 HN3 hq hr
  go_wp2_with fail
  refine (plus_none _ _ _ HR4.out HR4.out).mono ?_
  rintro e w' ⟨⟨tv, rfl, ht⟩, rfl⟩
  have HT4 := hid ht
  obtain ⟨ta, tn, tc, tb, to', rfl, -⟩ := ht.view
  clear ht HR4
  go_wp2_with fail
  refine (less_len _ _ _ _ _ HD4.out HT4.out (by simp)).mono ?_
  rintro e w' ⟨rfl, rfl⟩
  have e1 : (decide ((List.replicate 0 (0 : Int) ++ [1]).length < ([] : List Int).length)) = false := by decide
  rw [e1]
  clear e1
  go_wp2_with fail
  refine (less_len _ _ _ _ _ HT4.out HD4.out (by simp)).mono ?_
  rintro e w' ⟨rfl, rfl⟩
  have e1 : (decide (([] : List Int).length < (List.replicate 0 (0 : Int) ++ [1]).length)) = true := by decide
  rw [e1]
  clear e1
  go_wp2_with fail
  refine (digits_any _ 999999999999999 (by decide)).mono ?_
  rintro e w5 ⟨⟨gv, k, rfl, hgd, hk, -⟩, b5⟩
  have H5 := hid (H4.out.keep b5)
  have HG5 := hid hgd
  have HQ5 := hid (HQ4.out.below b5)
  have hk11 := digs_max hk
  obtain ⟨ga, gn, gc, gb, go', rfl, -⟩ := hgd.view
  clear b5 H4 HD4 HT4 hgd hk HQ4
  go_wp2_with fail
  refine (less_len _ _ _ _ _ HG5.out HQ5.out (by rw [dgsL_length, tenL_length]; omega)).mono ?_
  rintro e w' ⟨rfl, rfl⟩
  rw [dgsL_length, tenL_length, show decide (k < 9 + 1) = false from decide_eq_false (by omega)]
  clear hk11 HG5
  go_wp2_with fail
  refine (value_ten _ _ 9 (by omega) HQ5.out).mono ?_
  rintro e w' ⟨rfl, rfl⟩
  have e1 : ((10 ^ 9 : Nat) : Int) = 1000000000 := by decide
  rw [e1]
  clear e1 HQ5
  go_wp2_with fail
  refine (lowest_ten _).mono ?_
  rintro e w6 ⟨rfl, b6⟩
  have H6 := hid (H5.out.keep b6)
  clear b6 H5
  have H7 := hid (H6.out.keep ((Below.refl _ w6).alloc (Nat.le_refl _) (.cells #[.int .i64 1, .int .i64 0] 103)))
  have f0 := free_of (i := 0) H7.out.dec
  have f1 := free_of (i := 1) H7.out.dec
  have d0 := cell_of (i := 0) H7.out.dec rfl
  have d1 := cell_of (i := 1) H7.out.dec rfl
  go_wp2_with fail
  refine bodyPost_ret (v := .tuple #[.agg #[.int .i64 1, .int .i64 0], .int .i64 0]) (by simp [results, Tryz.results240, go_sem, *]) rfl ?_
  exact ⟨rfl, (H7.out.low.setCell HGE.out _).setCell HGE.out _⟩

abbrev WhS (w : World) (g : Nat) (y : World) : Prop := (y.cell? ⟨g, 0, none⟩ = some (.int .i64 1) ∧ y.cell? ⟨g, 1, none⟩ = some (.int .i64 0)) ∧ Below w.heap.size w y
theorem WhS.keep {w y z : World} {g : Nat} (h : (y.cell? ⟨g, 0, none⟩ = some (.int .i64 1) ∧ y.cell? ⟨g, 1, none⟩ = some (.int .i64 0)) ∧ Below w.heap.size w y) (hb : Below y.heap.size y z) : WhS w g z := by
  have k : ∀ {p : Addr} {u : Value}, y.cell? p = some u → z.cell? p = some u := fun {p u} hc => (hb.cell (World.block_lt_of_cell? _ _ hc)).trans hc
  exact ⟨⟨k h.1.1, k h.1.2⟩, h.2.trans (hb.mono h.2.size)⟩
theorem digs_one {k : Nat} (h0 : 1 / 10 ^ k = 0) (h : ∀ j, j < k → 1 / 10 ^ j ≠ 0) : k = 1 := by
  rcases k with _ | k
  · simp at h0
  · rcases k with _ | k
    · rfl
    · exact absurd (show 1 / 10 ^ 1 = 0 by decide) (h 1 (by omega))
set_option maxRecDepth 20000 in
set_option maxHeartbeats 1000000 in
theorem whole_one (w : World) : Calls Tryz.prog 243 #[.agg #[.int .i64 1, .int .i64 0]] w fun e w' => (∃ ov, e = .returned ov ∧ Dg w' ov (tenL 9)) ∧ Below w.heap.size w w' := by
  go_enter Tryz.func243, Tryz.ntmps243
  go_wp2_with fail
  have h0 := heap_alloc_new w (.cells #[.int .i64 1, .int .i64 0] 103)
  have bA := (Below.refl w.heap.size w).alloc (Nat.le_refl _) (.cells #[.int .i64 1, .int .i64 0] 103)
  obtain ⟨g, hg⟩ : ∃ g, g = w.heap.size := ⟨_, rfl⟩
  rw [← hg] at h0 ⊢
  clear hg
  generalize World.alloc _ _ = w1 at h0 bA ⊢
  have H1 := hid (show WhS w g w1.drew from ⟨⟨cell_of h0 rfl, cell_of h0 rfl⟩, bA.drew⟩)
  clear h0 bA
  go_region_held (fun y => (y.cell? ⟨g, 0, none⟩ = some (.int .i64 1) ∧ y.cell? ⟨g, 1, none⟩ = some (.int .i64 0)) ∧ Below w.heap.size w y) (first | with_reducible exact H1.out | with_reducible exact H2.out | with_reducible exact H3.out) (first | (go_at_call 296; refine (digits_any _ 1 (by decide)).mono ?_; rintro e w2 ⟨⟨gv, k, rfl, hgd, hk, hk2⟩, b2⟩; have H2 := hid (WhS.keep (by assumption) b2); obtain rfl := digs_one hk hk2; have HG := hid hgd; obtain ⟨ga, gn, gc, gb, go', rfl, -⟩ := hgd.view; clear hgd hk hk2 b2) | (go_at_call 242; refine (ten_any _ _ [1] HG.out (by simp) (by simp) 9 9 (by omega) (by decide)).mono ?_; rintro e w3 ⟨⟨ov, rfl, ho⟩, b3⟩; have H3 := hid (WhS.keep (by assumption) b3)))
  have HO := hid ho
  clear ho
  go_wp2_with fail
  go_ret
  exact ⟨⟨_, rfl, HO.out⟩, H3.out.2⟩
set_option maxRecDepth 20000 in
set_option maxHeartbeats 1000000 in
theorem unit_zero (w : World) : Calls Tryz.prog 241 #[.int .i64 0] w fun e w' => (∃ ov, e = .returned ov ∧ Dg w' ov [1]) ∧ Below w.heap.size w w' := by
  have D := hid ((dgOwn_one w 1).read (by simp))
  have B := hid ((Below.refl w.heap.size w).alloc (Nat.le_refl _) (.cells #[.int .i64 1] 3))
  go_enter Tryz.func241, Tryz.ntmps241
  go_wp2_with fail
  refine (ten_any _ _ [1] D.out (by simp) (by simp) 0 0 (by omega) (by decide)).mono ?_
  rintro e w2 ⟨⟨dv, rfl, hd⟩, b2⟩
  have H2 := hid (B.out.trans (b2.mono B.out.size))
  have HD := hid hd
  clear b2 hd
  go_wp2_with fail
  go_ret
  exact ⟨⟨_, rfl, HD.out⟩, H2.out⟩

set_option maxRecDepth 20000 in
set_option maxHeartbeats 1000000 in
theorem dfigures_one (w : World) : Calls Tryz.prog 238 #[.string text1, .int .i64 0] w fun e w' => e = .returned (.int .i64 1) ∧ w = w' := by
  go_enter Tryz.func238, Tryz.ntmps238
  go_wp2_with fail
  refine wp_loop_rounds 2 ?_
  rw [rounds_succ]
  go_wp2_with fail
  rw [rounds_succ]
  go_wp2_with fail
  go_ret
  exact ⟨rfl, rfl⟩

set_option maxRecDepth 20000 in
set_option maxHeartbeats 2000000 in
theorem dRead_one (w : World) : Calls Tryz.prog 197 #[.string text1] w fun e w' => e = .returned (.tuple #[.agg #[.int .i64 1, .int .i64 0], .int .i64 0]) ∧ Below w.heap.size w w' := by
  have H1 := hid (show Nr w w.heap.size (w.alloc (.cells #[.int .i64 0, .int .i64 0] 103)) from ⟨heap_alloc_new w _, (Below.refl _ w).alloc (Nat.le_refl _) _⟩)
  go_enter Tryz.func197, Tryz.ntmps197
  go_wp2_with fail
  obtain ⟨g, hg⟩ : ∃ g, g = w.heap.size := ⟨_, rfl⟩
  rw [← hg] at H1 ⊢
  have HGE := hid (show w.heap.size ≤ g by omega)
  clear hg
  generalize World.alloc _ _ = w1 at H1 ⊢
  refine (dfigures_one _).mono ?_
  rintro e w' ⟨rfl, rfl⟩
  go_wp2_with fail
  refine wp_loop_rounds 2 ?_
  rw [rounds_succ]
  have hrun := dg_ahead
  obtain ⟨a2, m2, c2, w2, happ, hm2, O2, ch2, -⟩ := (DgOwn.nil (w1.alloc (.cells #[.int .i64 1] 3)) w1.heap.size).app (by simp) ((dgOwn_one w1 1).read (by simp)) (by simp)
  have D2 := hid (O2.read (by simp))
  have H2 := hid (H1.out.keep (((Below.refl w1.heap.size w1).alloc (Nat.le_refl _) _).trans (ch2.below (B := w1.heap.size) (fun g hg => by simp [own, Value.ownBlock] at hg) (by simp))))
  clear O2 ch2 hm2 H1 hrun
  go_wp2_with (at_builtin; refine wpList_append_run rfl _ _ _ rfl _ _ rfl rfl happ ?_)
  rw [rounds_succ]
  go_wp2_with fail
  refine (trim_any _ _ _ D2.out).mono ?_
  rintro e w' ⟨⟨nv, rfl, hn⟩, rfl⟩
  have hn : Dg w2 nv [1] := hn
  have HN := hid hn
  obtain ⟨na, nn, nc, nb, no, rfl, -⟩ := hn.view
  clear hn happ D2
  go_wp2_with fail
  refine (unit_zero _).mono ?_
  rintro e w3 ⟨⟨uv, rfl, hu⟩, b3⟩
  have H3 := hid (H2.out.keep b3)
  have HN3 := hid (HN.out.below b3)
  have HU3 := hid hu
  obtain ⟨ua, un, uc, ub, uo, rfl, -⟩ := hu.view
  clear hu b3 H2 HN
  go_wp2_with fail
  refine (near_one _ _ _ HN3.out HU3.out).mono ?_
  rintro e w4 ⟨rfl, b4⟩
  have H4 := hid (H3.out.keep b4)
  have HN4 := hid (HN3.out.below b4)
  clear b4 H3 HN3 HU3
  have b5 := (Below.refl w4.heap.size w4).alloc (Nat.le_refl _) (.cells #[.int .i64 1, .int .i64 0] 103)
  have hh := heap_alloc_new w4 (.cells #[.int .i64 1, .int .i64 0] 103)
  have H5 := hid (H4.out.keep b5)
  have HN5 := hid (HN4.out.below b5)
  have HH := hid hh
  obtain ⟨y, hy⟩ : ∃ y, y = w4.heap.size := ⟨_, rfl⟩
  rw [← hy] at HH
  clear b5 hh H4 HN4
  go_wp2_with fail
  rw [← hy]
  have hlt := H5.out.low.size
  have HGY := hid (show g ≠ y from by
    have := heap_lt H5.out.dec
    intro hgy
    have h1 := H5.out.dec
    rw [hgy, HH.out] at h1
    simp at h1)
  generalize World.alloc _ _ = w5 at H5 HN5 HH ⊢
  clear hy hlt
  refine (whole_one _).mono ?_
  rintro e w6 ⟨⟨av, rfl, ha⟩, b6⟩
  have H6 := hid (H5.out.keep b6)
  have HN6 := hid (HN5.out.below b6)
  have HH6 := hid ((b6.block _ (heap_lt HH.out)).trans HH.out)
  have HA6 := hid ha
  obtain ⟨aa, an, ac, ab, ao, rfl, -⟩ := ha.view
  clear ha b6 H5 HN5 HH
  go_wp2_with fail
  refine (ten_any _ _ (tenL 9) HA6.out (by simp [tenL]) (by rw [tenL_length]; omega) 0 0 (by omega) (by decide)).mono ?_
  rintro e w7 ⟨⟨bv, rfl, hb⟩, b7⟩
  have H7 := hid (H6.out.keep b7)
  have HN7 := hid (HN6.out.below b7)
  have HH7 := hid ((b7.block _ (heap_lt HH6.out)).trans HH6.out)
  have HB7 := hid (show Dg w7 bv (tenL 9) from hb)
  obtain ⟨ba, bn, bc, bb, bo, rfl, -⟩ := hb.view
  clear hb b7 H6 HN6 HH6 HA6
  go_wp2_with fail
  refine (ten_any _ _ [1] HN7.out (by simp) (by simp) 9 9 (by omega) (by decide)).mono ?_
  rintro e w8 ⟨⟨cv, rfl, hc⟩, b8⟩
  have H8 := hid (H7.out.keep b8)
  have HH8 := hid ((b8.block _ (heap_lt HH7.out)).trans HH7.out)
  have HB8 := hid (HB7.out.below b8)
  have HC8 := hid (show Dg w8 cv (tenL 9) from hc)
  obtain ⟨ca, cn, cc, cb, co, rfl, -⟩ := hc.view
  clear hc b8 H7 HN7 HH7 HB7
  go_wp2_with fail
  refine (less_same _ _ _ _ HB8.out HC8.out).mono ?_
  rintro e w9 ⟨rfl, b9⟩
  have H9 := hid (H8.out.keep b9)
  have HH9 := hid ((b9.block _ (heap_lt HH8.out)).trans HH8.out)
  have HB9 := hid (HB8.out.below b9)
  have HC9 := hid (HC8.out.below b9)
  clear b9 H8 HH8 HB8 HC8
  go_wp2_with fail
  refine (less_same _ _ _ _ HC9.out HB9.out).mono ?_
  rintro e wa ⟨rfl, ba'⟩
  have Ha := hid (H9.out.keep ba')
  have HHa := hid ((ba'.block _ (heap_lt HH9.out)).trans HH9.out)
  have f0 := free_of (i := 0) Ha.out.dec
  have f1 := free_of (i := 1) Ha.out.dec
  have d0 := cell_of (i := 0) Ha.out.dec rfl
  have d1 := cell_of (i := 1) Ha.out.dec rfl
  have y0 := cell_of (i := 0) HHa.out rfl
  have y1 := cell_of (i := 1) HHa.out rfl
  clear ba' H9 HH9 HB9 HC9
  go_wp2_with fail
  refine bodyPost_ret (v := .tuple #[.agg #[.int .i64 1, .int .i64 0], .int .i64 0]) (by simp [results, Tryz.results197, go_sem, *]) rfl ?_
  exact ⟨rfl, (Ha.out.low.setCell HGE.out _).setCell HGE.out _⟩
end Go.Proofs.YtmmknjpcffaidaaGreatDoor

/- The document's test of an input at the text "1". No condition. -/
namespace Go.Proofs.YtmmknjpcffaidaaGreatDoor
open Go.RowKit Go.Lib

theorem one_byte : (text1[0]'(by decide)).toNat = 49 := rfl
abbrev nodeZ : List Value := [.int .i64 0, .string ⟨#[]⟩, .int .i64 0, .int .i64 0, .bool false, .int .i64 0, .string ⟨#[]⟩, .int .i64 0, .int .i64 0, .bool false, .bool false, .bool false, .string ⟨#[]⟩, .int .i64 0, .int .i64 0, .bool false, .bool false, .bool false, .int .i64 0, .slice none 0 0]
theorem nodeZ_one : nodeZ.toArray.all (·.oneCell') = true := by kernel_rfl
theorem nodeZ_info : (Tryz.prog.info? 106).map (·.size) = some nodeZ.toArray.size := by kernel_rfl
theorem valL_info : (Tryz.prog.info? 115).map (·.size) = some (valL 1 0).toArray.size := by kernel_rfl

set_option maxRecDepth 20000 in
set_option maxHeartbeats 2000000 in
theorem r9tree_one (w : World) : Calls Tryz.prog 108 #[.string text1] w fun e w' => e = .returned (.tuple #[.agg nodeZ.toArray, .bool false]) ∧ Below w.heap.size w w' := by
  have hb := one_byte
  have N0 := hid (heap_alloc_new w (.cells nodeZ.toArray 106))
  have B0 := hid ((Below.refl w.heap.size w).alloc (Nat.le_refl _) (.cells nodeZ.toArray 106))
  go_enter Tryz.func108, Tryz.ntmps108
  go_wp2_with (refine wpList_store_row rfl 106 _ _ rfl w.heap.size nodeZ.toArray rfl rfl 106 _ N0.out nodeZ_info (by rfl) nodeZ_one ?_)
  refine bodyPost_ret (v := .tuple #[.agg nodeZ.toArray, .bool false]) (results_row_tmp rfl _ _ w.heap.size _ _ rfl rfl (run_loadVar_row _ w.heap.size 106 106 nodeZ.toArray (0, 0) _ (heap_setRow_at N0.out) Tryz.underlying106 rfl nodeZ_info)) rfl ?_
  exact ⟨rfl, ((Chg.of_below B0.out).setRow (F := []) (.inr (Nat.le_refl _)) _).nil_below⟩

abbrev valZ : List Value := [.int .i64 0, .int .i64 0, .int .i64 0, .string ⟨#[]⟩, .bool false, .int .i64 0, .int .i64 0, .int .i64 0, .slice none 0 0, .int .i64 0, .slice none 0 0, .slice none 0 0]
set_option maxRecDepth 20000 in
set_option maxHeartbeats 2000000 in
theorem r3read_one (w : World) : Calls Tryz.prog 146 #[.string text1] w fun e w' => e = .returned (.tuple #[.agg (valL 1 0).toArray, .int .i64 0]) ∧ Below w.heap.size w w' := by
  have hb := one_byte
  go_enter Tryz.func146, Tryz.ntmps146
  go_wp2_with fail
  refine (dRead_one _).mono ?_
  rintro e w1 ⟨rfl, b1⟩
  have h1 := (b1.block w.heap.size (by simp)).trans (heap_alloc_new w _)
  have B1 : Below w.heap.size w w1 := ((Below.refl _ w).alloc (Nat.le_refl _) _).trans (b1.mono (by simp))
  have hs := heap_lt h1
  have h2 := heap_alloc_keep h1 (.cells #[.int .i64 1, .int .i64 0] 103)
  have H2 := hid (show _ ∧ _ from ⟨h2, B1.alloc (Nat.le_of_lt hs) (.cells #[.int .i64 1, .int .i64 0] 103)⟩)
  clear h1 B1 b1 h2
  go_wp2_with (refine wpList_store_row rfl 115 _ _ rfl w.heap.size (valL 1 0).toArray rfl rfl 115 _ H2.out.1 valL_info (by rfl) val_one ?_)
  refine bodyPost_ret (v := .tuple #[.agg (valL 1 0).toArray, .int .i64 0]) (results_row_tmp rfl _ _ w.heap.size _ _ rfl rfl (run_loadVar_row _ w.heap.size 115 115 (valL 1 0).toArray (0, 0) _ (heap_setRow_at H2.out.1) Tryz.underlying115 rfl valL_info)) rfl ?_
  exact ⟨rfl, ((Chg.of_below H2.out.2).setRow (F := []) (.inr (Nat.le_refl _)) _).nil_below⟩

set_option maxRecDepth 20000 in
set_option maxHeartbeats 2000000 in
theorem r9input_one (w : World) : Calls Tryz.prog 107 #[.string text1] w fun e w' => e = .returned (.bool true) ∧ Below w.heap.size w w' := by
  have hb := one_byte
  go_enter Tryz.func107, Tryz.ntmps107
  go_wp2_with fail
  refine (r9tree_one _).mono ?_
  rintro e w1 ⟨rfl, b1⟩
  have N1 := hid (heap_alloc_new w1 (.cells nodeZ.toArray 106))
  have C1 := hid (((Chg.of_below (F := []) b1).alloc (.cells nodeZ.toArray 106)).setRow (F := []) (g := w1.heap.size) (.inr b1.size) nodeZ.toArray)
  clear b1
  go_wp2_with (refine wpList_store_row rfl 106 _ _ rfl w1.heap.size nodeZ.toArray rfl rfl 106 _ N1.out nodeZ_info (by rfl) nodeZ_one ?_)
  generalize World.setRow _ _ _ = w2 at C1 ⊢
  clear N1
  refine (r3read_one _).mono ?_
  rintro e w3 ⟨rfl, b3⟩
  have B3 := hid (C1.out.nil_below.trans (b3.mono C1.out.size))
  have N3 := hid (heap_alloc_new w3 (.cells (valZ).toArray 115))
  clear b3 C1
  go_wp2_with (refine wpList_store_row rfl 115 _ _ rfl w3.heap.size (valL 1 0).toArray rfl rfl 115 _ N3.out valL_info (by rfl) val_one ?_)
  go_ret
  exact ⟨rfl, (((Chg.of_below (F := []) B3.out).alloc _).setRow (F := []) (.inr B3.out.size) _).nil_below⟩
end Go.Proofs.YtmmknjpcffaidaaGreatDoor
