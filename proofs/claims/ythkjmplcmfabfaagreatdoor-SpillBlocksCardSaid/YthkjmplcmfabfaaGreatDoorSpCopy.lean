/- Contracts of slices.Clone at cells, and at two sheets. No condition. Contracts of slices.Insert and slices.Delete at a row of cells of the caller's own. No condition. Contracts of slices.Clone at nil, and of book.copied at a workbook of two sheets. No condition. -/
import Derived.Test.YthkjmplcmfabfaaGreatDoorSpOwn
import Derived.Lib.LazyBuf
import Derived.Test.YthkjmplcmfabfaaGreatDoorSpIns
import Derived.Test.YthkjmplcmfabfaaGreatDoorSpCheckT
import Derived.Deep.RegionHeldLaw

/- Contracts of slices.Clone at cells, and at two sheets. No condition. -/
namespace Go.Proofs.YthkjmplcmfabfaaGreatDoor
open Go.RowKit Go.Lib

theorem cls_flat (tx : PAt → ByteArray) (l : List PAt) : (l.flatMap (cellC tx)).length = l.length * 3 := by
  induction l with
  | nil => rfl
  | cons x l ih =>
    rw [List.flatMap_cons, List.length_append, ih, List.length_cons]
    simp only [cellC, List.length_cons, List.length_nil]
    omega
set_option maxRecDepth 20000 in
set_option maxHeartbeats 1000000 in
theorem cloneC_any (w : World) (v : Value) (tx : PAt → ByteArray) (l : List PAt) (h : CellsIn w v tx l) (hl : l.length ≤ 1000) :
    Calls Tryz.prog 43 #[v] w fun e w' => (∃ ov, e = .returned ov ∧ ClsOwn w' w.heap.size ov tx l) ∧ Below w.heap.size w w' := by
  obtain ⟨ao, c, cb, co, rfl, hl2, hcl⟩ := h
  rw [List.length_map] at *
  have q22 : ∀ (w : World) (a : Option Addr) (n c : Nat), (binOp .eql 53 (.slice a n c) (.slice none 0 0)).run Tryz.prog w = .ok (.bool a.isNone) w := fun w a n c => Lib.run_eql_slice_nil w _ _ a n c 0 0 Tryz.underlying53
  obtain ⟨i0, hi, hz0, hz1, hz2⟩ := info_parts cls_info
  obtain ⟨ln, hln⟩ : ∃ n, n = l.length := ⟨_, rfl⟩
  rw [← hln] at hl ⊢
  rcases ao with _ | ad
  · have : l = [] := by
      cases l with
      | nil => rfl
      | cons p l => have := (hcl 0 (cellC tx p) rfl).1; cases this
    subst this
    obtain rfl : ln = 0 := hln
    go_enter Tryz.func43, Tryz.ntmps43
    go_wp2_with fail
    go_ret
    exact ⟨⟨_, rfl, ClsOwn.nil _ _ _⟩, Below.refl _ _⟩
  · obtain ⟨v', w', a1, a2, a3, _, _⟩ := run_append_own_at (P := Tryz.prog) (w.alloc (.cells #[] 58)) w.heap.size 53 53 58 i0 (.agg #[.int .i64 0, .int .i64 0, .string ⟨#[]⟩]) 3 32 Tryz.underlying53 hi hz0 hz1 hz2 rfl (by decide) _ 0 [] (World.ownsRow_made w #[] 0 (Nat.le_refl _) (Nat.zero_le _) (by simp))
      ad ln c (l.flatMap (cellC tx)) (by rw [cls_flat, hln]) (fun m u hu => by
        have hlen := cls_flat tx l
        have hm : m < l.length * 3 := by rw [← hlen]; exact (List.getElem?_eq_some_iff.1 hu).1
        obtain ⟨y, hy⟩ : ∃ y, l[m / 3]? = some y := ⟨_, List.getElem?_eq_getElem (by omega)⟩
        have h5 := flat_get (k := 3) (l.map (cellC tx)) (by intro c hc; obtain ⟨q, -, rfl⟩ := List.mem_map.1 hc; rfl) (m / 3) (m % 3) (cellC tx y) (by simp [hy]) (Nat.mod_lt _ (by omega))
        rw [show m / 3 * 3 + m % 3 = m by omega, ← List.flatMap_def, hu] at h5
        obtain ⟨e1, e2⟩ := hcl (m / 3) (cellC tx y) (by simp [hy])
        obtain rfl := Option.some.inj e1
        have := e2 (m % 3) u h5.symm
        rw [Addr.add_lit]
        rw [Nat.add_assoc, show m / 3 * 3 + m % 3 = m by omega] at this
        exact ((((Below.refl w.heap.size w).alloc (Nat.le_refl _) _).cell (World.block_lt_of_cell? _ _ this)).trans this)) (by
          intro u hu
          obtain ⟨y, -, hu⟩ := List.mem_flatMap.1 hu
          simp [cellC] at hu
          rcases hu with rfl | rfl | rfl <;> rfl) (by unfold maxLen; omega) (by omega) (by simp)
    have HO := hid (show ClsOwn w' w.heap.size v' tx l from by unfold ClsOwn; rw [← hln]; simpa using a2)
    have HB := hid (((Below.refl w.heap.size w).alloc (Nat.le_refl _) (.cells #[] 58)).grown a3 (by simp) (by intro k hk; simp [Value.ownBlock] at hk; omega))
    clear hcl a2 a3 hln
    go_enter Tryz.func43, Tryz.ntmps43
    go_wp2_with (at_builtin; refine wpList_append_run rfl _ _ _ rfl _ _ rfl rfl a1 ?_)
    go_ret
    exact ⟨⟨_, rfl, HO.out⟩, HB.out⟩

theorem shs_info : (Tryz.prog.info? 55).map (fun i => (i.zero, i.size, i.bytes)) = some (some (.agg #[.string ⟨#[]⟩, .slice none 0 0]), 2, 40) := by kernel_rfl
set_option maxRecDepth 20000 in
set_option maxHeartbeats 1000000 in
theorem cloneS_two (w : World) (b off bc : Nat) (s0 s1 : ByteArray) (a0 a1 : Option Addr) (n0 c0 n1 c1 : Nat) (h0 : w.cell? ⟨b, off, none⟩ = some (.string s0)) (h1 : w.cell? ⟨b, off + 1, none⟩ = some (.slice a0 n0 c0))
    (h2 : w.cell? ⟨b, off + 2, none⟩ = some (.string s1)) (h3 : w.cell? ⟨b, off + 3, none⟩ = some (.slice a1 n1 c1)) :
    Calls Tryz.prog 39 #[.slice (some ⟨b, off, none⟩) 2 bc] w fun e w' => (∃ ov, e = .returned ov ∧ w'.ownsRow w.heap.size 55 2 ov 2 [.string s0, .slice a0 n0 c0, .string s1, .slice a1 n1 c1]) ∧ Below w.heap.size w w' := by
  have q22 : ∀ (w : World) (a : Option Addr) (n c : Nat), (binOp .eql 25 (.slice a n c) (.slice none 0 0)).run Tryz.prog w = .ok (.bool a.isNone) w := fun w a n c => Lib.run_eql_slice_nil w _ _ a n c 0 0 Tryz.underlying25
  obtain ⟨i0, hi, hz0, hz1, hz2⟩ := info_parts shs_info
  have bA := (Below.refl w.heap.size w).alloc (Nat.le_refl _) (.cells #[] 55)
  have k : ∀ {p : Addr} {u : Value}, w.cell? p = some u → (w.alloc (.cells #[] 55)).cell? p = some u := fun {p u} hc => (bA.cell (World.block_lt_of_cell? _ _ hc)).trans hc
  obtain ⟨v', w', r1, r2, r3, _, _⟩ := run_append_own_at (P := Tryz.prog) (w.alloc (.cells #[] 55)) w.heap.size 25 25 55 i0 (.agg #[.string ⟨#[]⟩, .slice none 0 0]) 2 40 Tryz.underlying25 hi hz0 hz1 hz2 rfl (by decide) _ 0 [] (World.ownsRow_made w #[] 0 (Nat.le_refl _) (Nat.zero_le _) (by simp))
    ⟨b, off, none⟩ 2 bc [.string s0, .slice a0 n0 c0, .string s1, .slice a1 n1 c1] rfl (fun m u hu => by
      rw [Addr.add_lit]
      rcases m with _ | _ | _ | _ | m
      · simp at hu; subst hu; exact k h0
      · simp at hu; subst hu; exact k h1
      · simp at hu; subst hu; exact k h2
      · simp at hu; subst hu; exact k h3
      · simp at hu) (by
        intro u hu
        simp at hu
        rcases hu with rfl | rfl | rfl | rfl <;> rfl) (by unfold maxLen; omega) (by omega) (by simp)
  have HO := hid (show w'.ownsRow w.heap.size 55 2 v' 2 [.string s0, .slice a0 n0 c0, .string s1, .slice a1 n1 c1] from by simpa using r2)
  have HB := hid (bA.grown r3 (by simp) (by intro k hk; simp [Value.ownBlock] at hk; omega))
  clear r2 r3 k bA h0 h1 h2 h3
  go_enter Tryz.func39, Tryz.ntmps39
  go_wp2_with (at_builtin; refine wpList_append_run rfl _ _ _ rfl _ _ rfl rfl r1 ?_)
  go_ret
  exact ⟨⟨_, rfl, HO.out⟩, HB.out⟩
end Go.Proofs.YthkjmplcmfabfaaGreatDoor

/- Contracts of slices.Insert and slices.Delete at a row of cells of the caller's own. No condition. -/
namespace Go.Proofs.YthkjmplcmfabfaaGreatDoor
open Go.RowKit Go.Lib

set_option maxRecDepth 20000 in
set_option maxHeartbeats 1000000 in
theorem insEnd_any (w : World) (B : Nat) (v : Value) (n vb : Nat) (xs V : List Value) (h : w.ownsRow B 58 3 v n xs) (hv : w.heap[vb]? = some (.cells V.toArray 58 (0, 0))) (hV : V.length = 3) (h2 : ∀ u, u ∈ V → u.oneCell' = true) (hn : n ≤ 1000000) (hB : B ≤ w.heap.size) :
    Calls Tryz.prog 26 #[v, .int .i64 n, .slice (some ⟨vb, 0, none⟩) 1 1] w fun e w' => (∃ v', e = .returned v' ∧ w'.ownsRow B 58 3 v' (n + 1) (xs ++ V) ∧ ∀ g, v'.ownBlock = some g → v.ownBlock = some g ∨ w.heap.size ≤ g) ∧ Chg (own v) w w' := by
  obtain ⟨i0, hi, hz0, hz1, hz2⟩ := info_parts cls_info
  obtain ⟨v', w', a1, a2, a3, _, a5⟩ := run_append_own_at (P := Tryz.prog) w B 53 53 58 i0 (.agg #[.int .i64 0, .int .i64 0, .string ⟨#[]⟩]) 3 32 Tryz.underlying53 hi hz0 hz1 hz2 rfl (by decide) v n xs h
    ⟨vb, 0, none⟩ 1 1 V (by rw [hV]) (fun j u hu => by rw [Addr.add_lit]; exact cell_of hv (by simpa using hu)) h2 (by unfold maxLen; omega) (by omega) hB
  have HO := hid a2
  have HC := hid (show Chg (own v) w w' from (Chg.refl _ w).grown a3 (fun k hk => .inl (by simp [own, hk])))
  have HB := hid (show ∀ g, v'.ownBlock = some g → v.ownBlock = some g ∨ w.heap.size ≤ g from fun g hg => by
    rcases a5 with h5 | h5
    · exact .inl (h5 ▸ hg)
    · rw [hg] at h5
      simp only [Option.some.injEq] at h5
      exact .inr (by omega))
  obtain ⟨a, c, rfl, _⟩ := ownsRow_view h
  have hcap : n ≤ c := by obtain ⟨_, _, _, e, h3, _⟩ := ownsRow_capped h; injection e with e1 e2 e3; rw [e2, e3]; exact h3
  have hcm : c ≤ 9223372036854775807 := by
    rcases h.2 with ⟨e, _⟩ | ⟨_, _, _, e, _, _, _, h4, _⟩
    · injection e with e1 e2 e3; omega
    · injection e with e1 e2 e3; unfold maxLen at h4; omega
  clear h hv a2 a3 a5
  have g1 : (0 : Int) ≤ (n : Int) := by omega
  go_enter Tryz.func26, Tryz.ntmps26
  rcases a with _ | ⟨ab, ao, asp⟩
  all_goals
    go_wp2_with (at_builtin; refine wpList_append_run rfl _ _ _ rfl _ _ rfl rfl a1 ?_)
    all_goals (go_ret; exact ⟨⟨_, rfl, HO.out, HB.out⟩, HC.out⟩)

theorem chg_of_own {w w' : World} {g n c : Nat} (h : Chg [g] w w') : Chg (own (.slice (some ⟨g, 0, none⟩) n c)) w w' := h.mono (fun x hx => by simpa [own, Value.ownBlock] using hx)

theorem insOwn_any (w : World) (B : Nat) (v : Value) (n i vb : Nat) (xs V : List Value) (h : w.ownsRow B 58 3 v n xs) (hx : ∀ u, u ∈ xs → u.oneCell' = true) (hv : w.heap[vb]? = some (.cells V.toArray 58 (0, 0))) (hne : v.ownBlock ≠ some vb) (hV : V.length = 3) (h2 : ∀ u, u ∈ V → u.oneCell' = true) (hi : i ≤ n) (hn : n ≤ 1000000) (hB : B ≤ w.heap.size) :
    Calls Tryz.prog 26 #[v, .int .i64 i, .slice (some ⟨vb, 0, none⟩) 1 1] w fun e w' => (∃ v', e = .returned v' ∧ w'.ownsRow B 58 3 v' (n + 1) (xs.take (i * 3) ++ (V ++ xs.drop (i * 3))) ∧ ∀ g, v'.ownBlock = some g → v.ownBlock = some g ∨ w.heap.size ≤ g) ∧ Chg (own v) w w' := by
  by_cases hin : i = n
  · subst hin
    rw [← h.1, List.take_length, List.drop_length, List.append_nil]
    exact insEnd_any w B v i vb xs V h hv hV h2 hn hB
  · obtain ⟨k, rfl⟩ : ∃ k, n = i + k := ⟨n - i, by omega⟩
    have hl := h.1
    rcases h.2 with ⟨_, h0⟩ | ⟨g, cap, cur, rfl, hbg, hg, hc, hm, hcs, htk⟩
    · omega
    obtain ⟨S, hS⟩ : ∃ S, S = cur.toList.drop ((i + k) * 3) := ⟨_, rfl⟩
    have hcur : cur = (xs.take (i * 3) ++ (xs.drop (i * 3) ++ S)).toArray := by
      rw [← List.append_assoc, List.take_append_drop, hS, ← htk, List.take_append_drop, Array.toArray_toList]
    have hSl : S.length = (cap - (i + k)) * 3 := by rw [hS, List.length_drop, Array.length_toList, hcs, ← Nat.sub_mul]
    have hXl : (xs.take (i * 3)).length = i * 3 := by rw [List.length_take]; omega
    have hZl : (xs.drop (i * 3)).length = k * 3 := by rw [List.length_drop]; omega
    rw [hcur] at hg
    have hnew : (xs.take (i * 3) ++ (V ++ xs.drop (i * 3))).length = (i + k + 1) * 3 := by simp only [List.length_append]; omega
    have hcm : cap ≤ 9223372036854775807 := by unfold maxLen at hm; omega
    by_cases hr : i + k + 1 ≤ cap
    · refine (insRoom_any w g i k cap vb _ _ S V hg hv (fun e => hne (by rw [e]; rfl)) hXl hZl hV (by omega) (by omega) hr hcm (fun u hu => hx u (List.mem_of_mem_drop hu)) h2).mono ?_
      rintro e w' ⟨rfl, hg', hc'⟩
      refine ⟨⟨_, rfl, ⟨hnew, .inr ⟨g, cap, _, rfl, hbg, hg', hr, hm, ?_, ?_⟩⟩, fun g' h' => .inl h'⟩, chg_of_own hc'⟩
      · simp only [List.size_toArray, List.length_append, List.length_drop]; omega
      · show List.take _ (_ ++ (V ++ (_ ++ _))) = _
        rw [← List.append_assoc V, ← List.append_assoc, List.take_left' hnew]
    · refine (insGrow_any w g i k cap vb _ _ S V hg hv hXl hZl hV (by omega) hc (by omega) hn (fun u hu => hx u (List.mem_of_mem_drop hu)) h2).mono ?_
      rintro e w' ⟨⟨G, T, rfl, hg', hT, hG, hGm⟩, hc'⟩
      refine ⟨⟨_, rfl, ⟨hnew, .inr ⟨w.heap.size, G, _, rfl, hB, hg', hG, hGm, ?_, ?_⟩⟩, fun g' h' => .inr (by cases h'; exact Nat.le_refl _)⟩, hc'.mono (by simp)⟩
      · simp only [List.size_toArray, List.length_append]; omega
      · show List.take _ (_ ++ (V ++ (_ ++ _))) = _
        rw [← List.append_assoc V, ← List.append_assoc, List.take_left' hnew]

theorem delOwn_any (w : World) (B : Nat) (v : Value) (n i : Nat) (xs : List Value) (h : w.ownsRow B 58 3 v n xs) (hx : ∀ u, u ∈ xs → u.oneCell' = true) (hi : i < n) :
    Calls Tryz.prog 25 #[v, .int .i64 i, .int .i64 ((i : Int) + 1)] w fun e w' => (∃ v', e = .returned v' ∧ w'.ownsRow B 58 3 v' (n - 1) (xs.take (i * 3) ++ xs.drop ((i + 1) * 3)) ∧ v'.ownBlock = v.ownBlock) ∧ Chg (own v) w w' := by
  obtain ⟨k, rfl⟩ : ∃ k, n = i + 1 + k := ⟨n - (i + 1), by omega⟩
  have hl := h.1
  rcases h.2 with ⟨_, h0⟩ | ⟨g, cap, cur, rfl, hbg, hg, hc, hm, hcs, htk⟩
  · omega
  obtain ⟨S, hS⟩ : ∃ S, S = cur.toList.drop ((i + 1 + k) * 3) := ⟨_, rfl⟩
  obtain ⟨Y, hY⟩ : ∃ Y, Y = (xs.drop (i * 3)).take 3 := ⟨_, rfl⟩
  have hYZ : Y ++ xs.drop ((i + 1) * 3) = xs.drop (i * 3) := by rw [hY, show (i + 1) * 3 = i * 3 + 3 by omega, ← List.drop_drop, List.take_append_drop]
  have hcur : cur = (xs.take (i * 3) ++ (Y ++ (xs.drop ((i + 1) * 3) ++ S))).toArray := by
    rw [← List.append_assoc Y, hYZ, ← List.append_assoc, List.take_append_drop, hS, ← htk, List.take_append_drop, Array.toArray_toList]
  have hSl : S.length = (cap - (i + 1 + k)) * 3 := by rw [hS, List.length_drop, Array.length_toList, hcs, ← Nat.sub_mul]
  have hXl : (xs.take (i * 3)).length = i * 3 := by rw [List.length_take]; omega
  have hYl : Y.length = 3 := by rw [hY, List.length_take, List.length_drop]; omega
  have hZl : (xs.drop ((i + 1) * 3)).length = k * 3 := by rw [List.length_drop]; omega
  rw [hcur] at hg
  have hnew : (xs.take (i * 3) ++ xs.drop ((i + 1) * 3)).length = (i + k) * 3 := by simp only [List.length_append]; omega
  refine (delRow_any w g i k cap _ Y _ S hg hXl hYl hZl hc (by unfold maxLen at hm; omega) (fun u hu => hx u (List.mem_of_mem_drop hu))).mono ?_
  rintro e w' ⟨rfl, hg', hc'⟩
  rw [show i + 1 + k - 1 = i + k by omega]
  refine ⟨⟨_, rfl, ⟨hnew, .inr ⟨g, cap, _, rfl, hbg, hg', by omega, hm, ?_, ?_⟩⟩, rfl⟩, chg_of_own hc'⟩
  · simp only [List.size_toArray, List.length_append, zeroC, List.length_cons, List.length_nil]; omega
  · show List.take _ (_ ++ (_ ++ (_ ++ _))) = _
    rw [← List.append_assoc, List.take_left' hnew]

theorem cls_one (tx : PAt → ByteArray) (l : List PAt) : ∀ u, u ∈ l.flatMap (cellC tx) → u.oneCell' = true := by
  intro u hu
  obtain ⟨y, -, hu⟩ := List.mem_flatMap.1 hu
  simp [cellC] at hu
  rcases hu with rfl | rfl | rfl <;> rfl
theorem cls_take (tx : PAt → ByteArray) (l : List PAt) : ∀ i, (l.flatMap (cellC tx)).take (i * 3) = (l.take i).flatMap (cellC tx) ∧ (l.flatMap (cellC tx)).drop (i * 3) = (l.drop i).flatMap (cellC tx) := by
  induction l with
  | nil => simp
  | cons x l ih =>
    intro i
    cases i with
    | zero => simp
    | succ i =>
      have e : (i + 1) * 3 = (cellC tx x).length + i * 3 := by simp [cellC]; omega
      rw [List.flatMap_cons, e, List.take_length_add_append, List.drop_length_add_append, (ih i).1, (ih i).2]
      simp
end Go.Proofs.YthkjmplcmfabfaaGreatDoor

/- Contracts of slices.Clone at nil, and of book.copied at a workbook of two sheets. No condition. -/
namespace Go.Proofs.YthkjmplcmfabfaaGreatDoor
open Go.RowKit Go.Lib

theorem cloneN_nil (w : World) : Calls Tryz.prog 40 #[.slice none 0 0] w fun e w' => e = .returned (.slice none 0 0) ∧ w' = w := by
  have q22 : ∀ (w : World) (a : Option Addr) (n c : Nat), (binOp .eql 26 (.slice a n c) (.slice none 0 0)).run Tryz.prog w = .ok (.bool a.isNone) w := fun w a n c => Lib.run_eql_slice_nil w _ _ a n c 0 0 Tryz.underlying26
  go_enter Tryz.func40, Tryz.ntmps40
  go_wp2_with fail
  go_ret
  exact ⟨rfl, rfl⟩
theorem cloneT_nil (w : World) : Calls Tryz.prog 41 #[.slice none 0 0] w fun e w' => e = .returned (.slice none 0 0) ∧ w' = w := by
  have q22 : ∀ (w : World) (a : Option Addr) (n c : Nat), (binOp .eql 27 (.slice a n c) (.slice none 0 0)).run Tryz.prog w = .ok (.bool a.isNone) w := fun w a n c => Lib.run_eql_slice_nil w _ _ a n c 0 0 Tryz.underlying27
  go_enter Tryz.func41, Tryz.ntmps41
  go_wp2_with fail
  go_ret
  exact ⟨rfl, rfl⟩
theorem cloneR_nil (w : World) : Calls Tryz.prog 42 #[.slice none 0 0] w fun e w' => e = .returned (.slice none 0 0) ∧ w' = w := by
  have q22 : ∀ (w : World) (a : Option Addr) (n c : Nat), (binOp .eql 28 (.slice a n c) (.slice none 0 0)).run Tryz.prog w = .ok (.bool a.isNone) w := fun w a n c => Lib.run_eql_slice_nil w _ _ a n c 0 0 Tryz.underlying28
  go_enter Tryz.func42, Tryz.ntmps42
  go_wp2_with fail
  go_ret
  exact ⟨rfl, rfl⟩

/-- what stands while copied goes: its workbook, its answer's place, the new sheets -/
structure Cp (w : World) (gs bc : Nat) (x0 x1 : Value) (S : List Value) (y : World) : Prop where
  b0 : y.heap[w.heap.size]? = some (.cells (bookC gs 0 bc) 30 (0, 0))
  b1 : y.heap[w.heap.size + 1]? = some (.cells #[.slice none 0 0, .slice none 0 0, .slice none 0 0, .slice none 0 0] 30 (0, 0))
  sh : y.heap[gs]? = some (.cells (.string nameS :: x0 :: .string nameT :: x1 :: S).toArray 55 (0, 0))
  low : Below w.heap.size w y
  lo : w.heap.size ≤ gs
theorem Cp.keep {w y z : World} {gs bc : Nat} {x0 x1 : Value} {S : List Value} (h : Cp w gs bc x0 x1 S y) (hb : Below y.heap.size y z) : Cp w gs bc x0 x1 S z :=
  ⟨(hb.block _ (heap_lt h.b0)).trans h.b0, (hb.block _ (heap_lt h.b1)).trans h.b1, (hb.block _ (heap_lt h.sh)).trans h.sh, h.low.trans (hb.mono h.low.size), h.lo⟩

/-- a workbook of two sheets of a call's own -/
structure BookOwn (w : World) (B : Nat) (v : Value) (A : List PAt) (tx : PAt → ByteArray) : Prop where
  at' : ∃ g bc u0 u1 S, v = .agg (bookC g 0 bc) ∧ 2 ≤ bc ∧ B ≤ g ∧ w.heap[g]? = some (.cells (.string nameS :: u0 :: .string nameT :: u1 :: S).toArray 55 (0, 0)) ∧ ClsOwn w B u0 tx (onSheet A 0) ∧ ClsOwn w B u1 tx (onSheet A 1) ∧ ∀ h, u0.ownBlock = some h → u1.ownBlock ≠ some h
theorem cls_ne_sheet {w : World} {B : Nat} {v : Value} {tx : PAt → ByteArray} {l : List PAt} {g : Nat} {cs : Array Value} (h : ClsOwn w B v tx l) (hg : w.heap[g]? = some (.cells cs 55 (0, 0))) : v.ownBlock ≠ some g := by
  rcases h.2 with ⟨rfl, _⟩ | ⟨g', cap, cur, rfl, _, hg', _⟩
  · intro hc; cases hc
  · intro hc
    cases hc
    exact heap_ne hg' hg (by decide) rfl

theorem sheets_view {w : World} {B : Nat} {v x0 x1 : Value} {s0 s1 : ByteArray} (h : w.ownsRow B 55 2 v 2 [.string s0, x0, .string s1, x1]) :
    ∃ gs gc S, v = .slice (some ⟨gs, 0, none⟩) 2 gc ∧ 2 ≤ gc ∧ B ≤ gs ∧ w.heap[gs]? = some (.cells (.string s0 :: x0 :: .string s1 :: x1 :: S).toArray 55 (0, 0)) := by
  rcases h.2 with ⟨_, h0⟩ | ⟨g, cap, cur, rfl, hb, hg, h1, h2, h3, h4⟩
  · cases h0
  · refine ⟨g, cap, cur.toList.drop 4, rfl, h1, hb, ?_⟩
    have e : cur = (.string s0 :: x0 :: .string s1 :: x1 :: cur.toList.drop 4 : List Value).toArray := by
      have h5 := List.take_append_drop 4 cur.toList
      rw [h4] at h5
      have h6 := congrArg List.toArray h5
      rw [Array.toArray_toList] at h6
      exact h6.symm
    rw [← e]
    exact hg
/-- .. and ahead of the first copy -/
structure Cq (w : World) (b off bc : Nat) (y : World) : Prop where
  b0 : y.heap[w.heap.size]? = some (.cells (bookC b off bc) 30 (0, 0))
  b1 : y.heap[w.heap.size + 1]? = some (.cells #[.slice none 0 0, .slice none 0 0, .slice none 0 0, .slice none 0 0] 30 (0, 0))
  low : Below w.heap.size w y
theorem Cq.keep {w y z : World} {b off bc : Nat} (h : Cq w b off bc y) (hb : Below y.heap.size y z) : Cq w b off bc z :=
  ⟨(hb.block _ (heap_lt h.b0)).trans h.b0, (hb.block _ (heap_lt h.b1)).trans h.b1, h.low.trans (hb.mono h.low.size)⟩
abbrev CpS (B : Nat) (y : World) : Prop := y.cell? ⟨B, 1, none⟩ = some (.slice none 0 0) ∧ y.cell? ⟨B, 2, none⟩ = some (.slice none 0 0) ∧ y.cell? ⟨B, 3, none⟩ = some (.slice none 0 0)
theorem cpS_set {B : Nat} {y : World} (h : CpS B y) : (∀ u, CpS B (y.setCell ⟨B, 0, none⟩ u)) ∧ CpS B (y.setCell ⟨B, 1, none⟩ (.slice none 0 0)) ∧ CpS B (y.setCell ⟨B, 2, none⟩ (.slice none 0 0)) ∧ CpS B (y.setCell ⟨B, 3, none⟩ (.slice none 0 0)) := by
  obtain ⟨h1, h2, h3⟩ := h
  have o : ∀ {i j : Nat} {u v : Value}, i ≠ j → y.cell? ⟨B, j, none⟩ = some v → (y.setCell ⟨B, i, none⟩ u).cell? ⟨B, j, none⟩ = some v := fun hij hc => (World.cell?_setCell_other _ _ _ _ (by intro e; exact hij (congrArg Addr.off e))).trans hc
  refine ⟨fun u => ⟨o (by decide) h1, o (by decide) h2, o (by decide) h3⟩, ⟨World.cell?_setCell_same _ _ _ h1, o (by decide) h2, o (by decide) h3⟩, ⟨o (by decide) h1, World.cell?_setCell_same _ _ _ h2, o (by decide) h3⟩, ⟨o (by decide) h1, o (by decide) h2, World.cell?_setCell_same _ _ _ h3⟩⟩

theorem cp_start {w y : World} {b off bc gs gc : Nat} {x0 x1 : Value} {S : List Value} (h : Cq w b off bc y) (hg : y.heap[gs]? = some (.cells (.string nameS :: x0 :: .string nameT :: x1 :: S).toArray 55 (0, 0))) (hlo : w.heap.size ≤ gs) :
    Cp w gs gc x0 x1 S ((((y.setCell ⟨w.heap.size, 0, none⟩ (.slice (some ⟨gs, 0, none⟩) 2 gc)).setCell ⟨w.heap.size, 1, none⟩ (.slice none 0 0)).setCell ⟨w.heap.size, 2, none⟩ (.slice none 0 0)).setCell ⟨w.heap.size, 3, none⟩ (.slice none 0 0)) := by
  have n0 : gs ≠ w.heap.size := heap_ne hg h.b0 (by decide)
  refine ⟨?_, ?_, ?_, (((h.low.setCell (Nat.le_refl _) _).setCell (Nat.le_refl _) _).setCell (Nat.le_refl _) _).setCell (Nat.le_refl _) _, hlo⟩
  · have := heap_setCell_at (i := 3) (heap_setCell_at (i := 2) (heap_setCell_at (i := 1) (heap_setCell_at (i := 0) h.b0 (.slice (some ⟨gs, 0, none⟩) 2 gc)) (.slice none 0 0)) (.slice none 0 0)) (.slice none 0 0)
    simpa [bookC] using this
  · exact heap_setCell_far (heap_setCell_far (heap_setCell_far (heap_setCell_far h.b1 (by omega) _) (by omega) _) (by omega) _) (by omega) _
  · exact heap_setCell_far (heap_setCell_far (heap_setCell_far (heap_setCell_far hg n0 _) n0 _) n0 _) n0 _
theorem Cp.store0 {w y : World} {gs gc : Nat} {x0 x1 : Value} {S : List Value} (h : Cp w gs gc x0 x1 S y) (u : Value) : Cp w gs gc u x1 S (y.setCell ⟨gs, 1, none⟩ u) := by
  have n0 : w.heap.size ≠ gs := heap_ne h.b0 h.sh (by decide)
  have n1 : w.heap.size + 1 ≠ gs := heap_ne h.b1 h.sh (by decide)
  exact ⟨heap_setCell_far h.b0 n0 _, heap_setCell_far h.b1 n1 _, by simpa using heap_setCell_at (i := 1) h.sh u, h.low.setCell h.lo _, h.lo⟩
theorem Cp.store1 {w y : World} {gs gc : Nat} {x0 x1 : Value} {S : List Value} (h : Cp w gs gc x0 x1 S y) (u : Value) : Cp w gs gc x0 u S (y.setCell ⟨gs, 3, none⟩ u) := by
  have n0 : w.heap.size ≠ gs := heap_ne h.b0 h.sh (by decide)
  have n1 : w.heap.size + 1 ≠ gs := heap_ne h.b1 h.sh (by decide)
  exact ⟨heap_setCell_far h.b0 n0 _, heap_setCell_far h.b1 n1 _, by simpa using heap_setCell_at (i := 3) h.sh u, h.low.setCell h.lo _, h.lo⟩
theorem cls_store {w : World} {B gs i : Nat} {v u : Value} {tx : PAt → ByteArray} {l : List PAt} {cs : Array Value} (h : ClsOwn w B v tx l) (hg : w.heap[gs]? = some (.cells cs 55 (0, 0))) : ClsOwn (w.setCell ⟨gs, i, none⟩ u) B v tx l :=
  h.chg (F := [gs]) ((Chg.refl [gs] w).setCell (.inl (by simp)) u) (fun g hg' hm => by simp only [List.mem_singleton] at hm; exact cls_ne_sheet h hg (hm ▸ hg'))

set_option maxRecDepth 20000 in
set_option maxHeartbeats 2000000 in
theorem copied_any (w : World) (v : Value) (A : List PAt) (tx : PAt → ByteArray) (h : BookAt w v A tx) : Calls Tryz.prog 23 #[v] w fun e w' => (∃ ov, e = .returned ov ∧ BookOwn w' w.heap.size ov A tx) ∧ Below w.heap.size w w' := by
  obtain ⟨⟨b, off, bc, v0, v1, hbc, rfl, h2, h3, h4, h5, h6, h7⟩, hr, ht, hf, ho⟩ := h
  obtain ⟨a0, c0, b0, o0, rfl, l0, k0⟩ := h6.view
  obtain ⟨a1, c1, b1, o1, rfl, l1, k1⟩ := h7.view
  have C1 : Cq w b off bc ((w.alloc (.cells (bookC b off bc) 30)).alloc (.cells #[.slice none 0 0, .slice none 0 0, .slice none 0 0, .slice none 0 0] 30)) := ⟨heap_alloc_keep (heap_alloc_new w _) _, heap_alloc2_new w _ _, ((Below.refl w.heap.size w).alloc (Nat.le_refl _) _).alloc (by simp) _⟩
  have HS := hid (fun (y : World) (hb : Below w.heap.size w y) => by
    have k : ∀ {p : Addr} {u : Value}, w.cell? p = some u → y.cell? p = some u := fun {p u} hc => (hb.cell (World.block_lt_of_cell? _ _ hc)).trans hc
    exact cloneS_two y b off bc _ _ _ _ _ _ _ _ (k h2) (k h3) (k h4) (k h5))
  have H6 := hid h6
  have HN0 := hid (show (onSheet A 0).length ≤ 1000 from Nat.le_trans (onSheet_le A 0) (by omega))
  have HN1 := hid (show (onSheet A 1).length ≤ 1000 from Nat.le_trans (onSheet_le A 1) (by omega))
  have H7 := hid h7
  obtain ⟨n0, e0⟩ : ∃ n, n = (onSheet A 0).length := ⟨_, rfl⟩
  obtain ⟨n1, e1⟩ : ∃ n, n = (onSheet A 1).length := ⟨_, rfl⟩
  rw [← e0, ← e1] at HS
  rw [← e0] at H6
  rw [← e1] at H7
  have HCN := hid (fun w => cloneN_nil w)
  have HCT := hid (fun w => cloneT_nil w)
  have HCR := hid (fun w => cloneR_nil w)
  have HST := hid (fun (B : Nat) (y : World) (h : CpS B y) => cpS_set h)
  clear h2 h3 h4 h5 h6 h7 hr ht hf ho k0 k1 l0 l1 hbc e0 e1
  go_enter Tryz.func23, Tryz.ntmps23
  go_wp2_with fail
  generalize World.alloc (World.alloc _ _) _ = w1 at C1 ⊢
  have HC1 := hid C1
  have q0 : w1.cell? ⟨w.heap.size, 0, none⟩ = some (.slice (some ⟨b, off, none⟩) 2 bc) := cell_of C1.b0 rfl
  have HS0 := hid (show CpS w.heap.size w1.drew from ⟨(cell_of C1.b0 rfl : w1.cell? _ = _), (cell_of C1.b0 rfl : w1.cell? _ = _), (cell_of C1.b0 rfl : w1.cell? _ = _)⟩)
  clear C1
  refine wp_region_held_drew (S := fun y => y.cell? ⟨w.heap.size, 1, none⟩ = some (.slice none 0 0) ∧ y.cell? ⟨w.heap.size, 2, none⟩ = some (.slice none 0 0) ∧ y.cell? ⟨w.heap.size, 3, none⟩ = some (.slice none 0 0)) (by kernel_rfl) HS0.out (fun hS => ?_)
  refine wpAnyH_take (i := 0) (oi := { dst := Option.some 5, op := Op.fieldAddr 30 (Operand.tmp 1) 0, type := 0, pos := "book.go:250", after := #[], guard := Option.none }) (v := ?_) rfl (by kernel_rfl) (by kernel_rfl) (by kernel_rfl) (fun _ _ _ h => h) (Or.inl ⟨by rfl, ?_⟩) hS ?_
  rotate_left 1
  · rintro wx ⟨s0, s1, s2⟩
    (go_simp <;> (try with_reducible rfl))
  try simp only [Act.put, List.setIfInBounds_toArray, List.set_cons_zero, List.set_cons_succ]
  refine wpAnyH_take (i := 3) (oi := { dst := Option.some 8, op := Op.fieldAddr 30 (Operand.tmp 1) 1, type := 0, pos := "book.go:250", after := #[], guard := Option.none }) (v := ?_) rfl (by kernel_rfl) (by kernel_rfl) (by kernel_rfl) (fun _ _ _ h => h) (Or.inl ⟨by rfl, ?_⟩) hS ?_
  rotate_left 1
  · rintro wx ⟨s0, s1, s2⟩
    (go_simp <;> (try with_reducible rfl))
  try simp only [Act.put, List.setIfInBounds_toArray, List.set_cons_zero, List.set_cons_succ]
  refine wpAnyH_take (i := 6) (oi := { dst := Option.some 11, op := Op.fieldAddr 30 (Operand.tmp 1) 2, type := 0, pos := "book.go:250", after := #[], guard := Option.none }) (v := ?_) rfl (by kernel_rfl) (by kernel_rfl) (by kernel_rfl) (fun _ _ _ h => h) (Or.inl ⟨by rfl, ?_⟩) hS ?_
  rotate_left 1
  · rintro wx ⟨s0, s1, s2⟩
    (go_simp <;> (try with_reducible rfl))
  try simp only [Act.put, List.setIfInBounds_toArray, List.set_cons_zero, List.set_cons_succ]
  refine wpAnyH_take (i := 9) (oi := { dst := Option.some 14, op := Op.fieldAddr 30 (Operand.tmp 1) 3, type := 0, pos := "book.go:250", after := #[], guard := Option.none }) (v := ?_) rfl (by kernel_rfl) (by kernel_rfl) (by kernel_rfl) (fun _ _ _ h => h) (Or.inl ⟨by rfl, ?_⟩) hS ?_
  rotate_left 1
  · rintro wx ⟨s0, s1, s2⟩
    (go_simp <;> (try with_reducible rfl))
  try simp only [Act.put, List.setIfInBounds_toArray, List.set_cons_zero, List.set_cons_succ]
  refine wpAnyH_take (i := 4) (oi := { dst := Option.some 9, op := Op.load 26 (Operand.tmp 8), type := 26, pos := "book.go:250", after := #[{ on := 3, ground := Ground.data }], guard := Option.none }) (v := ?_) rfl (by kernel_rfl) (by kernel_rfl) (by kernel_rfl) (fun _ _ _ h => h) (Or.inl ⟨by rfl, ?_⟩) hS ?_
  rotate_left 1
  · rintro wx ⟨s0, s1, s2⟩
    (go_simp <;> (try with_reducible rfl))
  try simp only [Act.put, List.setIfInBounds_toArray, List.set_cons_zero, List.set_cons_succ]
  refine wpAnyH_take (i := 7) (oi := { dst := Option.some 12, op := Op.load 27 (Operand.tmp 11), type := 27, pos := "book.go:250", after := #[{ on := 6, ground := Ground.data }], guard := Option.none }) (v := ?_) rfl (by kernel_rfl) (by kernel_rfl) (by kernel_rfl) (fun _ _ _ h => h) (Or.inl ⟨by rfl, ?_⟩) hS ?_
  rotate_left 1
  · rintro wx ⟨s0, s1, s2⟩
    (go_simp <;> (try with_reducible rfl))
  try simp only [Act.put, List.setIfInBounds_toArray, List.set_cons_zero, List.set_cons_succ]
  refine wpAnyH_take (i := 10) (oi := { dst := Option.some 15, op := Op.load 28 (Operand.tmp 14), type := 28, pos := "book.go:250", after := #[{ on := 9, ground := Ground.data }], guard := Option.none }) (v := ?_) rfl (by kernel_rfl) (by kernel_rfl) (by kernel_rfl) (fun _ _ _ h => h) (Or.inl ⟨by rfl, ?_⟩) hS ?_
  rotate_left 1
  · rintro wx ⟨s0, s1, s2⟩
    (go_simp <;> (try with_reducible rfl))
  try simp only [Act.put, List.setIfInBounds_toArray, List.set_cons_zero, List.set_cons_succ]
  refine wpAnyH_ready (rs := [1]) (by kernel_rfl) (by simp) ?_
  refine AllReadyH.cons (o := { dst := Option.some 6, op := Op.load 25 (Operand.tmp 5), type := 25, pos := "book.go:250", after := #[{ on := 0, ground := Ground.data }], guard := Option.none }) rfl (fun K hK => ?_) AllReadyH.nil
  go_simp
  refine hK.out _ _ HS0.out (fun hS2 => ?_)
  clear hK K hS
  revert hS2; intro hS
  try simp only [Act.put, List.setIfInBounds_toArray, List.set_cons_zero, List.set_cons_succ]
  refine wpAnyH_ready (rs := [2]) (by kernel_rfl) (by simp) ?_
  refine AllReadyH.cons (o := { dst := Option.some 7, op := Op.call { callee := Callee.value (Operand.func 39), args := #[Operand.tmp 6], argTypes := #[25] }, type := 25, pos := "book.go:250", after := #[{ on := 1, ground := Ground.data }], guard := Option.none }) rfl (fun K hK => ?_) AllReadyH.nil
  go_simp; refine (HS.out _ HC1.out.low.drew).mono ?_; rintro e w3 ⟨⟨ov, rfl, ho⟩, b3⟩; obtain ⟨gs, gc, S, rfl, hgc, hgs, hgr⟩ := sheets_view ho; have HGR := hid hgr; have HGS := hid hgs; have HGC := hid hgc; have b3' := (Below.refl w1.heap.size w1).drew.trans b3; have C3 := HC1.out.keep b3'; have HC3 := hid C3; have HS3 := hid (show CpS w.heap.size w3 from ⟨cell_of C3.b0 rfl, cell_of C3.b0 rfl, cell_of C3.b0 rfl⟩); have d0 : w3.cell? ⟨w.heap.size, 0, none⟩ = some (.slice (some ⟨b, off, none⟩) 2 bc) := cell_of C3.b0 rfl; have d1 : w3.cell? ⟨w.heap.size, 1, none⟩ = some (.slice none 0 0) := cell_of C3.b0 rfl; have d2 : w3.cell? ⟨w.heap.size, 2, none⟩ = some (.slice none 0 0) := cell_of C3.b0 rfl; have d3 : w3.cell? ⟨w.heap.size, 3, none⟩ = some (.slice none 0 0) := cell_of C3.b0 rfl; have f0 := free_of (i := 0) C3.b0; have f1 := free_of (i := 1) C3.b0; have f2 := free_of (i := 2) C3.b0; have f3 := free_of (i := 3) C3.b0; have HB3 := hid b3; clear b3 b3' C3 ho q0 hgr hgs hgc
  refine hK.out _ _ HS3.out (fun hS2 => ?_)
  clear hK K hS
  revert hS2; intro hS
  try simp only [Act.put, List.setIfInBounds_toArray, List.set_cons_zero, List.set_cons_succ]
  refine wpAnyH_take (i := 12) (oi := { dst := Option.some 17, op := Op.fieldAddr 30 (Operand.tmp 1) 0, type := 0, pos := "book.go:250", after := #[{ on := 0, ground := Ground.phase }, { on := 1, ground := Ground.phase }, { on := 2, ground := Ground.phase }, { on := 3, ground := Ground.phase }, { on := 4, ground := Ground.phase }, { on := 5, ground := Ground.textOnly Departure.lateStoresUnsure }, { on := 6, ground := Ground.phase }, { on := 7, ground := Ground.phase }, { on := 8, ground := Ground.textOnly Departure.lateStoresUnsure }, { on := 9, ground := Ground.phase }, { on := 10, ground := Ground.phase }, { on := 11, ground := Ground.textOnly Departure.lateStoresUnsure }], guard := Option.none }) (v := ?_) rfl (by kernel_rfl) (by kernel_rfl) (by kernel_rfl) (fun _ _ _ h => h) (Or.inl ⟨by rfl, ?_⟩) hS ?_
  rotate_left 1
  · rintro wx ⟨s0, s1, s2⟩
    (go_simp <;> (try with_reducible rfl))
  try simp only [Act.put, List.setIfInBounds_toArray, List.set_cons_zero, List.set_cons_succ]
  refine wpAnyH_ready (rs := [5]) (by kernel_rfl) (by simp) ?_
  refine AllReadyH.cons (o := { dst := Option.some 10, op := Op.call { callee := Callee.value (Operand.func 40), args := #[Operand.tmp 9], argTypes := #[26] }, type := 26, pos := "book.go:250", after := #[{ on := 4, ground := Ground.data }, { on := 2, ground := Ground.chain }], guard := Option.none }) rfl (fun K hK => ?_) AllReadyH.nil
  go_simp; refine (HCN.out _).mono ?_; rintro e w4 ⟨rfl, rfl⟩
  refine hK.out _ _ HS3.out (fun hS2 => ?_)
  clear hK K hS
  revert hS2; intro hS
  try simp only [Act.put, List.setIfInBounds_toArray, List.set_cons_zero, List.set_cons_succ]
  refine wpAnyH_ready (rs := [8]) (by kernel_rfl) (by simp) ?_
  refine AllReadyH.cons (o := { dst := Option.some 13, op := Op.call { callee := Callee.value (Operand.func 41), args := #[Operand.tmp 12], argTypes := #[27] }, type := 27, pos := "book.go:250", after := #[{ on := 7, ground := Ground.data }, { on := 5, ground := Ground.chain }], guard := Option.none }) rfl (fun K hK => ?_) AllReadyH.nil
  go_simp; refine (HCT.out _).mono ?_; rintro e w4 ⟨rfl, rfl⟩
  refine hK.out _ _ HS3.out (fun hS2 => ?_)
  clear hK K hS
  revert hS2; intro hS
  try simp only [Act.put, List.setIfInBounds_toArray, List.set_cons_zero, List.set_cons_succ]
  refine wpAnyH_ready (rs := [11]) (by kernel_rfl) (by simp) ?_
  refine AllReadyH.cons (o := { dst := Option.some 16, op := Op.call { callee := Callee.value (Operand.func 42), args := #[Operand.tmp 15], argTypes := #[28] }, type := 28, pos := "book.go:250", after := #[{ on := 10, ground := Ground.data }, { on := 8, ground := Ground.chain }], guard := Option.none }) rfl (fun K hK => ?_) AllReadyH.nil
  go_simp; refine (HCR.out _).mono ?_; rintro e w4 ⟨rfl, rfl⟩
  refine hK.out _ _ HS3.out (fun hS2 => ?_)
  clear hK K hS
  revert hS2; intro hS
  try simp only [Act.put, List.setIfInBounds_toArray, List.set_cons_zero, List.set_cons_succ]
  refine wpAnyH_ready (rs := [13]) (by kernel_rfl) (by simp) ?_
  refine AllReadyH.cons (o := { dst := Option.none, op := Op.store 25 (Operand.tmp 17) (Operand.tmp 7), type := 0, pos := "book.go:250", after := #[{ on := 12, ground := Ground.data }, { on := 2, ground := Ground.data }, { on := 11, ground := Ground.chain }, { on := 0, ground := Ground.phase }, { on := 1, ground := Ground.phase }, { on := 2, ground := Ground.phase }, { on := 3, ground := Ground.phase }, { on := 4, ground := Ground.phase }, { on := 5, ground := Ground.textOnly Departure.lateStoresUnsure }, { on := 6, ground := Ground.phase }, { on := 7, ground := Ground.phase }, { on := 8, ground := Ground.textOnly Departure.lateStoresUnsure }, { on := 9, ground := Ground.phase }, { on := 10, ground := Ground.phase }, { on := 11, ground := Ground.textOnly Departure.lateStoresUnsure }], guard := Option.none }) rfl (fun K hK => ?_) AllReadyH.nil
  go_simp
  refine hK.out _ _ ((HST.out _ _ hS).1 _) (fun hS2 => ?_)
  clear hK K hS
  revert hS2; intro hS
  try simp only [Act.put, List.setIfInBounds_toArray, List.set_cons_zero, List.set_cons_succ]
  refine wpAnyH_take (i := 14) (oi := { dst := Option.some 18, op := Op.fieldAddr 30 (Operand.tmp 1) 1, type := 0, pos := "book.go:250", after := #[{ on := 0, ground := Ground.phase }, { on := 1, ground := Ground.phase }, { on := 2, ground := Ground.phase }, { on := 3, ground := Ground.phase }, { on := 4, ground := Ground.phase }, { on := 5, ground := Ground.phase }, { on := 6, ground := Ground.phase }, { on := 7, ground := Ground.phase }, { on := 8, ground := Ground.textOnly Departure.lateStoresUnsure }, { on := 9, ground := Ground.phase }, { on := 10, ground := Ground.phase }, { on := 11, ground := Ground.textOnly Departure.lateStoresUnsure }, { on := 12, ground := Ground.phase }, { on := 13, ground := Ground.phase }], guard := Option.none }) (v := ?_) rfl (by kernel_rfl) (by kernel_rfl) (by kernel_rfl) (fun _ _ _ h => h) (Or.inl ⟨by rfl, ?_⟩) hS ?_
  rotate_left 1
  · rintro wx ⟨s0, s1, s2⟩
    (go_simp <;> (try with_reducible rfl))
  try simp only [Act.put, List.setIfInBounds_toArray, List.set_cons_zero, List.set_cons_succ]
  refine wpAnyH_ready (rs := [15]) (by kernel_rfl) (by simp) ?_
  refine AllReadyH.cons (o := { dst := Option.none, op := Op.store 26 (Operand.tmp 18) (Operand.tmp 10), type := 0, pos := "book.go:250", after := #[{ on := 14, ground := Ground.data }, { on := 5, ground := Ground.data }, { on := 13, ground := Ground.chain }, { on := 0, ground := Ground.phase }, { on := 1, ground := Ground.phase }, { on := 2, ground := Ground.phase }, { on := 3, ground := Ground.phase }, { on := 4, ground := Ground.phase }, { on := 5, ground := Ground.phase }, { on := 6, ground := Ground.phase }, { on := 7, ground := Ground.phase }, { on := 8, ground := Ground.textOnly Departure.lateStoresUnsure }, { on := 9, ground := Ground.phase }, { on := 10, ground := Ground.phase }, { on := 11, ground := Ground.textOnly Departure.lateStoresUnsure }, { on := 12, ground := Ground.phase }, { on := 13, ground := Ground.phase }], guard := Option.none }) rfl (fun K hK => ?_) AllReadyH.nil
  go_simp
  refine hK.out _ _ (HST.out _ _ hS).2.1 (fun hS2 => ?_)
  clear hK K hS
  revert hS2; intro hS
  try simp only [Act.put, List.setIfInBounds_toArray, List.set_cons_zero, List.set_cons_succ]
  refine wpAnyH_take (i := 16) (oi := { dst := Option.some 19, op := Op.fieldAddr 30 (Operand.tmp 1) 2, type := 0, pos := "book.go:250", after := #[{ on := 0, ground := Ground.phase }, { on := 1, ground := Ground.phase }, { on := 2, ground := Ground.phase }, { on := 3, ground := Ground.phase }, { on := 4, ground := Ground.phase }, { on := 5, ground := Ground.phase }, { on := 6, ground := Ground.phase }, { on := 7, ground := Ground.phase }, { on := 8, ground := Ground.phase }, { on := 9, ground := Ground.phase }, { on := 10, ground := Ground.phase }, { on := 11, ground := Ground.textOnly Departure.lateStoresUnsure }, { on := 12, ground := Ground.phase }, { on := 13, ground := Ground.phase }, { on := 14, ground := Ground.phase }, { on := 15, ground := Ground.phase }], guard := Option.none }) (v := ?_) rfl (by kernel_rfl) (by kernel_rfl) (by kernel_rfl) (fun _ _ _ h => h) (Or.inl ⟨by rfl, ?_⟩) hS ?_
  rotate_left 1
  · rintro wx ⟨s0, s1, s2⟩
    (go_simp <;> (try with_reducible rfl))
  try simp only [Act.put, List.setIfInBounds_toArray, List.set_cons_zero, List.set_cons_succ]
  refine wpAnyH_ready (rs := [17]) (by kernel_rfl) (by simp) ?_
  refine AllReadyH.cons (o := { dst := Option.none, op := Op.store 27 (Operand.tmp 19) (Operand.tmp 13), type := 0, pos := "book.go:250", after := #[{ on := 16, ground := Ground.data }, { on := 8, ground := Ground.data }, { on := 15, ground := Ground.chain }, { on := 0, ground := Ground.phase }, { on := 1, ground := Ground.phase }, { on := 2, ground := Ground.phase }, { on := 3, ground := Ground.phase }, { on := 4, ground := Ground.phase }, { on := 5, ground := Ground.phase }, { on := 6, ground := Ground.phase }, { on := 7, ground := Ground.phase }, { on := 8, ground := Ground.phase }, { on := 9, ground := Ground.phase }, { on := 10, ground := Ground.phase }, { on := 11, ground := Ground.textOnly Departure.lateStoresUnsure }, { on := 12, ground := Ground.phase }, { on := 13, ground := Ground.phase }, { on := 14, ground := Ground.phase }, { on := 15, ground := Ground.phase }], guard := Option.none }) rfl (fun K hK => ?_) AllReadyH.nil
  go_simp
  refine hK.out _ _ (HST.out _ _ hS).2.2.1 (fun hS2 => ?_)
  clear hK K hS
  revert hS2; intro hS
  try simp only [Act.put, List.setIfInBounds_toArray, List.set_cons_zero, List.set_cons_succ]
  refine wpAnyH_take (i := 18) (oi := { dst := Option.some 20, op := Op.fieldAddr 30 (Operand.tmp 1) 3, type := 0, pos := "book.go:250", after := #[{ on := 0, ground := Ground.phase }, { on := 1, ground := Ground.phase }, { on := 2, ground := Ground.phase }, { on := 3, ground := Ground.phase }, { on := 4, ground := Ground.phase }, { on := 5, ground := Ground.phase }, { on := 6, ground := Ground.phase }, { on := 7, ground := Ground.phase }, { on := 8, ground := Ground.phase }, { on := 9, ground := Ground.phase }, { on := 10, ground := Ground.phase }, { on := 11, ground := Ground.phase }, { on := 12, ground := Ground.phase }, { on := 13, ground := Ground.phase }, { on := 14, ground := Ground.phase }, { on := 15, ground := Ground.phase }, { on := 16, ground := Ground.phase }, { on := 17, ground := Ground.phase }], guard := Option.none }) (v := ?_) rfl (by kernel_rfl) (by kernel_rfl) (by kernel_rfl) (fun _ _ _ h => h) (Or.inl ⟨by rfl, ?_⟩) hS ?_
  rotate_left 1
  · rintro wx ⟨s0, s1, s2⟩
    (go_simp <;> (try with_reducible rfl))
  try simp only [Act.put, List.setIfInBounds_toArray, List.set_cons_zero, List.set_cons_succ]
  refine wpAnyH_ready (rs := [19]) (by kernel_rfl) (by simp) ?_
  refine AllReadyH.cons (o := { dst := Option.none, op := Op.store 28 (Operand.tmp 20) (Operand.tmp 16), type := 0, pos := "book.go:250", after := #[{ on := 18, ground := Ground.data }, { on := 11, ground := Ground.data }, { on := 17, ground := Ground.chain }, { on := 0, ground := Ground.phase }, { on := 1, ground := Ground.phase }, { on := 2, ground := Ground.phase }, { on := 3, ground := Ground.phase }, { on := 4, ground := Ground.phase }, { on := 5, ground := Ground.phase }, { on := 6, ground := Ground.phase }, { on := 7, ground := Ground.phase }, { on := 8, ground := Ground.phase }, { on := 9, ground := Ground.phase }, { on := 10, ground := Ground.phase }, { on := 11, ground := Ground.phase }, { on := 12, ground := Ground.phase }, { on := 13, ground := Ground.phase }, { on := 14, ground := Ground.phase }, { on := 15, ground := Ground.phase }, { on := 16, ground := Ground.phase }, { on := 17, ground := Ground.phase }], guard := Option.none }) rfl (fun K hK => ?_) AllReadyH.nil
  go_simp
  refine hK.out _ _ (HST.out _ _ hS).2.2.2 (fun hS2 => ?_)
  clear hK K hS
  revert hS2; intro hS
  try simp only [Act.put, List.setIfInBounds_toArray, List.set_cons_zero, List.set_cons_succ]
  refine wpAnyH_done (by kernel_rfl) ?_ _
  have C5 := cp_start (gc := gc) HC3.out HGR.out (Nat.le_trans HC1.out.low.size HGS.out)
  clear hS d0 d1 d2 d3 f0 f1 f2 f3
  generalize World.setCell (World.setCell (World.setCell (World.setCell _ _ _) _ _) _ _) _ _ = w5 at C5 ⊢
  have HC5 := hid C5
  have q0 : w5.cell? ⟨w.heap.size, 0, none⟩ = some (.slice (some ⟨gs, 0, none⟩) 2 gc) := cell_of C5.b0 rfl
  clear C5 HS HCN HCT HCR HST HC1 HS0 HC3 HS3 HGR HB3
  go_wp2_with fail
  refine wp_loop_rounds 3 ?_
  rw [rounds_succ]
  go_wp2_with fail
  have HSa0 := hid (show w5.drew.cell? ⟨w.heap.size, 0, none⟩ = some (.slice (some ⟨gs, 0, none⟩) 2 gc) from q0)
  have m0 : w5.cell? ⟨gs, 1, none⟩ = some (.slice a0 n0 c0) := cell_of HC5.out.sh rfl
  refine wp_region_held_drew (S := fun y => y.cell? ⟨w.heap.size, 0, none⟩ = some (.slice (some ⟨gs, 0, none⟩) 2 gc)) (by kernel_rfl) HSa0.out (fun hS => ?_)
  refine wpAnyH_take (i := 0) (oi := { dst := Option.some 27, op := Op.fieldAddr 30 (Operand.tmp 1) 0, type := 0, pos := "book.go:252", after := #[], guard := Option.none }) (v := ?_) rfl (by kernel_rfl) (by kernel_rfl) (by kernel_rfl) (fun _ _ _ h => h) (Or.inl ⟨by rfl, ?_⟩) hS ?_
  rotate_left 1
  · rintro wx s0
    (go_simp <;> (try with_reducible rfl))
  try simp only [Act.put, List.setIfInBounds_toArray, List.set_cons_zero, List.set_cons_succ]
  refine wpAnyH_take (i := 1) (oi := { dst := Option.some 28, op := Op.load 25 (Operand.tmp 27), type := 25, pos := "book.go:252", after := #[{ on := 0, ground := Ground.data }], guard := Option.none }) (v := ?_) rfl (by kernel_rfl) (by kernel_rfl) (by kernel_rfl) (fun _ _ _ h => h) (Or.inl ⟨by rfl, ?_⟩) hS ?_
  rotate_left 1
  · rintro wx s0
    (go_simp <;> (try with_reducible rfl))
  try simp only [Act.put, List.setIfInBounds_toArray, List.set_cons_zero, List.set_cons_succ]
  refine wpAnyH_take (i := 2) (oi := { dst := Option.some 29, op := Op.move (Operand.tmp 3), type := 3, pos := "book.go:252", after := #[], guard := Option.none }) (v := ?_) rfl (by kernel_rfl) (by kernel_rfl) (by kernel_rfl) (fun _ _ _ h => h) (Or.inl ⟨by rfl, ?_⟩) hS ?_
  rotate_left 1
  · rintro wx s0
    (go_simp <;> (try with_reducible rfl))
  try simp only [Act.put, List.setIfInBounds_toArray, List.set_cons_zero, List.set_cons_succ]
  refine wpAnyH_take (i := 3) (oi := { dst := Option.some 30, op := Op.fieldAddr 30 (Operand.tmp 1) 0, type := 0, pos := "book.go:252", after := #[], guard := Option.none }) (v := ?_) rfl (by kernel_rfl) (by kernel_rfl) (by kernel_rfl) (fun _ _ _ h => h) (Or.inl ⟨by rfl, ?_⟩) hS ?_
  rotate_left 1
  · rintro wx s0
    (go_simp <;> (try with_reducible rfl))
  try simp only [Act.put, List.setIfInBounds_toArray, List.set_cons_zero, List.set_cons_succ]
  refine wpAnyH_take (i := 4) (oi := { dst := Option.some 31, op := Op.load 25 (Operand.tmp 30), type := 25, pos := "book.go:252", after := #[{ on := 3, ground := Ground.data }], guard := Option.none }) (v := ?_) rfl (by kernel_rfl) (by kernel_rfl) (by kernel_rfl) (fun _ _ _ h => h) (Or.inl ⟨by rfl, ?_⟩) hS ?_
  rotate_left 1
  · rintro wx s0
    (go_simp <;> (try with_reducible rfl))
  try simp only [Act.put, List.setIfInBounds_toArray, List.set_cons_zero, List.set_cons_succ]
  refine wpAnyH_take (i := 5) (oi := { dst := Option.some 32, op := Op.move (Operand.tmp 3), type := 3, pos := "book.go:252", after := #[], guard := Option.none }) (v := ?_) rfl (by kernel_rfl) (by kernel_rfl) (by kernel_rfl) (fun _ _ _ h => h) (Or.inl ⟨by rfl, ?_⟩) hS ?_
  rotate_left 1
  · rintro wx s0
    (go_simp <;> (try with_reducible rfl))
  try simp only [Act.put, List.setIfInBounds_toArray, List.set_cons_zero, List.set_cons_succ]
  refine wpAnyH_take (i := 6) (oi := { dst := Option.some 33, op := Op.indexAddr 25 (Operand.tmp 31) (Operand.tmp 32), type := 0, pos := "book.go:252", after := #[{ on := 4, ground := Ground.data }, { on := 5, ground := Ground.data }], guard := Option.none }) (v := ?_) rfl (by kernel_rfl) (by kernel_rfl) (by kernel_rfl) (fun _ _ _ h => h) (Or.inl ⟨by rfl, ?_⟩) hS ?_
  rotate_left 1
  · rintro wx s0
    (go_simp <;> (try with_reducible rfl))
  try simp only [Act.put, List.setIfInBounds_toArray, List.set_cons_zero, List.set_cons_succ]
  refine wpAnyH_take (i := 7) (oi := { dst := Option.some 34, op := Op.fieldAddr 55 (Operand.tmp 33) 1, type := 0, pos := "book.go:252", after := #[{ on := 6, ground := Ground.data }], guard := Option.none }) (v := ?_) rfl (by kernel_rfl) (by kernel_rfl) (by kernel_rfl) (fun _ _ _ h => h) (Or.inl ⟨by rfl, ?_⟩) hS ?_
  rotate_left 1
  · rintro wx s0
    (go_simp <;> (try with_reducible rfl))
  try simp only [Act.put, List.setIfInBounds_toArray, List.set_cons_zero, List.set_cons_succ]
  refine wpAnyH_ready (rs := [8]) (by kernel_rfl) (by simp) ?_
  refine AllReadyH.cons (o := { dst := Option.some 35, op := Op.load 53 (Operand.tmp 34), type := 53, pos := "book.go:252", after := #[{ on := 7, ground := Ground.data }], guard := Option.none }) rfl (fun K hK => ?_) AllReadyH.nil
  go_simp
  refine hK.out _ _ HSa0.out (fun hS2 => ?_)
  clear hK K hS
  revert hS2; intro hS
  try simp only [Act.put, List.setIfInBounds_toArray, List.set_cons_zero, List.set_cons_succ]
  refine wpAnyH_ready (rs := [9]) (by kernel_rfl) (by simp) ?_
  refine AllReadyH.cons (o := { dst := Option.some 36, op := Op.call { callee := Callee.value (Operand.func 43), args := #[Operand.tmp 35], argTypes := #[53] }, type := 53, pos := "book.go:252", after := #[{ on := 8, ground := Ground.data }], guard := Option.none }) rfl (fun K hK => ?_) AllReadyH.nil
  go_simp; refine (cloneC_any _ _ tx _ (H6.out.below HC5.out.low.drew) HN0.out).mono ?_; rintro e w6 ⟨⟨u0, rfl, ho⟩, b6⟩; have b6' := (Below.refl w5.heap.size w5).drew.trans b6; have HC6 := hid (HC5.out.keep b6'); have HU := hid (show ClsOwn w6 w.heap.size u0 tx (onSheet A 0) from ho.lower HC5.out.low.size); obtain ⟨ua, um, uc, rfl, hum⟩ := ho.view; have HSb0 := hid (show w6.cell? ⟨w.heap.size, 0, none⟩ = some (.slice (some ⟨gs, 0, none⟩) 2 gc) from cell_of HC6.out.b0 rfl); have t0 : w6.cell? ⟨gs, 1, none⟩ = some (.slice a0 n0 c0) := cell_of HC6.out.sh rfl; have f0 := free_of (i := 1) HC6.out.sh; have HSc0 := hid (show (w6.setCell ⟨gs, 1, none⟩ (.slice ua um uc)).cell? ⟨w.heap.size, 0, none⟩ = some (.slice (some ⟨gs, 0, none⟩) 2 gc) from cell_of (HC6.out.store0 _).b0 rfl); clear b6 b6' ho m0 q0 hum
  refine hK.out _ _ HSb0.out (fun hS2 => ?_)
  clear hK K hS
  revert hS2; intro hS
  try simp only [Act.put, List.setIfInBounds_toArray, List.set_cons_zero, List.set_cons_succ]
  refine wpAnyH_take (i := 10) (oi := { dst := Option.some 37, op := Op.indexAddr 25 (Operand.tmp 28) (Operand.tmp 29), type := 0, pos := "book.go:252", after := #[{ on := 1, ground := Ground.data }, { on := 2, ground := Ground.data }, { on := 0, ground := Ground.phase }, { on := 1, ground := Ground.phase }, { on := 2, ground := Ground.phase }, { on := 3, ground := Ground.phase }, { on := 4, ground := Ground.phase }, { on := 5, ground := Ground.phase }, { on := 6, ground := Ground.phase }, { on := 7, ground := Ground.phase }, { on := 8, ground := Ground.phase }, { on := 9, ground := Ground.phase }], guard := Option.none }) (v := ?_) rfl (by kernel_rfl) (by kernel_rfl) (by kernel_rfl) (fun _ _ _ h => h) (Or.inl ⟨by rfl, ?_⟩) hS ?_
  rotate_left 1
  · rintro wx s0
    (go_simp <;> (try with_reducible rfl))
  try simp only [Act.put, List.setIfInBounds_toArray, List.set_cons_zero, List.set_cons_succ]
  refine wpAnyH_take (i := 11) (oi := { dst := Option.some 38, op := Op.fieldAddr 55 (Operand.tmp 37) 1, type := 0, pos := "book.go:252", after := #[{ on := 10, ground := Ground.data }, { on := 0, ground := Ground.phase }, { on := 1, ground := Ground.phase }, { on := 2, ground := Ground.phase }, { on := 3, ground := Ground.phase }, { on := 4, ground := Ground.phase }, { on := 5, ground := Ground.phase }, { on := 6, ground := Ground.phase }, { on := 7, ground := Ground.phase }, { on := 8, ground := Ground.phase }, { on := 9, ground := Ground.phase }], guard := Option.none }) (v := ?_) rfl (by kernel_rfl) (by kernel_rfl) (by kernel_rfl) (fun _ _ _ h => h) (Or.inl ⟨by rfl, ?_⟩) hS ?_
  rotate_left 1
  · rintro wx s0
    (go_simp <;> (try with_reducible rfl))
  try simp only [Act.put, List.setIfInBounds_toArray, List.set_cons_zero, List.set_cons_succ]
  refine wpAnyH_ready (rs := [12]) (by kernel_rfl) (by simp) ?_
  refine AllReadyH.cons (o := { dst := Option.none, op := Op.store 53 (Operand.tmp 38) (Operand.tmp 36), type := 0, pos := "book.go:252", after := #[{ on := 11, ground := Ground.data }, { on := 9, ground := Ground.data }, { on := 9, ground := Ground.chain }, { on := 0, ground := Ground.phase }, { on := 1, ground := Ground.phase }, { on := 2, ground := Ground.phase }, { on := 3, ground := Ground.phase }, { on := 4, ground := Ground.phase }, { on := 5, ground := Ground.phase }, { on := 6, ground := Ground.phase }, { on := 7, ground := Ground.phase }, { on := 8, ground := Ground.phase }, { on := 9, ground := Ground.phase }], guard := Option.none }) rfl (fun K hK => ?_) AllReadyH.nil
  go_simp
  refine hK.out _ _ HSc0.out (fun hS2 => ?_)
  clear hK K hS
  revert hS2; intro hS
  try simp only [Act.put, List.setIfInBounds_toArray, List.set_cons_zero, List.set_cons_succ]
  refine wpAnyH_done (by kernel_rfl) ?_ _
  have C7 := HC6.out.store0 (.slice ua um uc)
  have HU7 := hid (cls_store (i := 1) (u := .slice ua um uc) HU.out HC6.out.sh)
  clear hS t0 f0 HSa0 HSb0 HSc0 HU
  generalize World.setCell w6 _ _ = w7 at C7 HU7 ⊢
  have HC7 := hid C7
  clear C7 HC6
  go_wp2_with fail
  rw [rounds_succ]
  go_wp2_with fail
  have q0 : w7.cell? ⟨w.heap.size, 0, none⟩ = some (.slice (some ⟨gs, 0, none⟩) 2 gc) := cell_of HC7.out.b0 rfl
  have HSa1 := hid (show w7.drew.cell? ⟨w.heap.size, 0, none⟩ = some (.slice (some ⟨gs, 0, none⟩) 2 gc) from q0)
  have m0 : w7.cell? ⟨gs, 3, none⟩ = some (.slice a1 n1 c1) := cell_of HC7.out.sh rfl
  refine wp_region_held_drew (S := fun y => y.cell? ⟨w.heap.size, 0, none⟩ = some (.slice (some ⟨gs, 0, none⟩) 2 gc)) (by kernel_rfl) HSa1.out (fun hS => ?_)
  refine wpAnyH_take (i := 0) (oi := { dst := Option.some 27, op := Op.fieldAddr 30 (Operand.tmp 1) 0, type := 0, pos := "book.go:252", after := #[], guard := Option.none }) (v := ?_) rfl (by kernel_rfl) (by kernel_rfl) (by kernel_rfl) (fun _ _ _ h => h) (Or.inl ⟨by rfl, ?_⟩) hS ?_
  rotate_left 1
  · rintro wx s0
    (go_simp <;> (try with_reducible rfl))
  try simp only [Act.put, List.setIfInBounds_toArray, List.set_cons_zero, List.set_cons_succ]
  refine wpAnyH_take (i := 1) (oi := { dst := Option.some 28, op := Op.load 25 (Operand.tmp 27), type := 25, pos := "book.go:252", after := #[{ on := 0, ground := Ground.data }], guard := Option.none }) (v := ?_) rfl (by kernel_rfl) (by kernel_rfl) (by kernel_rfl) (fun _ _ _ h => h) (Or.inl ⟨by rfl, ?_⟩) hS ?_
  rotate_left 1
  · rintro wx s0
    (go_simp <;> (try with_reducible rfl))
  try simp only [Act.put, List.setIfInBounds_toArray, List.set_cons_zero, List.set_cons_succ]
  refine wpAnyH_take (i := 2) (oi := { dst := Option.some 29, op := Op.move (Operand.tmp 3), type := 3, pos := "book.go:252", after := #[], guard := Option.none }) (v := ?_) rfl (by kernel_rfl) (by kernel_rfl) (by kernel_rfl) (fun _ _ _ h => h) (Or.inl ⟨by rfl, ?_⟩) hS ?_
  rotate_left 1
  · rintro wx s0
    (go_simp <;> (try with_reducible rfl))
  try simp only [Act.put, List.setIfInBounds_toArray, List.set_cons_zero, List.set_cons_succ]
  refine wpAnyH_take (i := 3) (oi := { dst := Option.some 30, op := Op.fieldAddr 30 (Operand.tmp 1) 0, type := 0, pos := "book.go:252", after := #[], guard := Option.none }) (v := ?_) rfl (by kernel_rfl) (by kernel_rfl) (by kernel_rfl) (fun _ _ _ h => h) (Or.inl ⟨by rfl, ?_⟩) hS ?_
  rotate_left 1
  · rintro wx s0
    (go_simp <;> (try with_reducible rfl))
  try simp only [Act.put, List.setIfInBounds_toArray, List.set_cons_zero, List.set_cons_succ]
  refine wpAnyH_take (i := 4) (oi := { dst := Option.some 31, op := Op.load 25 (Operand.tmp 30), type := 25, pos := "book.go:252", after := #[{ on := 3, ground := Ground.data }], guard := Option.none }) (v := ?_) rfl (by kernel_rfl) (by kernel_rfl) (by kernel_rfl) (fun _ _ _ h => h) (Or.inl ⟨by rfl, ?_⟩) hS ?_
  rotate_left 1
  · rintro wx s0
    (go_simp <;> (try with_reducible rfl))
  try simp only [Act.put, List.setIfInBounds_toArray, List.set_cons_zero, List.set_cons_succ]
  refine wpAnyH_take (i := 5) (oi := { dst := Option.some 32, op := Op.move (Operand.tmp 3), type := 3, pos := "book.go:252", after := #[], guard := Option.none }) (v := ?_) rfl (by kernel_rfl) (by kernel_rfl) (by kernel_rfl) (fun _ _ _ h => h) (Or.inl ⟨by rfl, ?_⟩) hS ?_
  rotate_left 1
  · rintro wx s0
    (go_simp <;> (try with_reducible rfl))
  try simp only [Act.put, List.setIfInBounds_toArray, List.set_cons_zero, List.set_cons_succ]
  refine wpAnyH_take (i := 6) (oi := { dst := Option.some 33, op := Op.indexAddr 25 (Operand.tmp 31) (Operand.tmp 32), type := 0, pos := "book.go:252", after := #[{ on := 4, ground := Ground.data }, { on := 5, ground := Ground.data }], guard := Option.none }) (v := ?_) rfl (by kernel_rfl) (by kernel_rfl) (by kernel_rfl) (fun _ _ _ h => h) (Or.inl ⟨by rfl, ?_⟩) hS ?_
  rotate_left 1
  · rintro wx s0
    (go_simp <;> (try with_reducible rfl))
  try simp only [Act.put, List.setIfInBounds_toArray, List.set_cons_zero, List.set_cons_succ]
  refine wpAnyH_take (i := 7) (oi := { dst := Option.some 34, op := Op.fieldAddr 55 (Operand.tmp 33) 1, type := 0, pos := "book.go:252", after := #[{ on := 6, ground := Ground.data }], guard := Option.none }) (v := ?_) rfl (by kernel_rfl) (by kernel_rfl) (by kernel_rfl) (fun _ _ _ h => h) (Or.inl ⟨by rfl, ?_⟩) hS ?_
  rotate_left 1
  · rintro wx s0
    (go_simp <;> (try with_reducible rfl))
  try simp only [Act.put, List.setIfInBounds_toArray, List.set_cons_zero, List.set_cons_succ]
  refine wpAnyH_ready (rs := [8]) (by kernel_rfl) (by simp) ?_
  refine AllReadyH.cons (o := { dst := Option.some 35, op := Op.load 53 (Operand.tmp 34), type := 53, pos := "book.go:252", after := #[{ on := 7, ground := Ground.data }], guard := Option.none }) rfl (fun K hK => ?_) AllReadyH.nil
  go_simp
  refine hK.out _ _ HSa1.out (fun hS2 => ?_)
  clear hK K hS
  revert hS2; intro hS
  try simp only [Act.put, List.setIfInBounds_toArray, List.set_cons_zero, List.set_cons_succ]
  refine wpAnyH_ready (rs := [9]) (by kernel_rfl) (by simp) ?_
  refine AllReadyH.cons (o := { dst := Option.some 36, op := Op.call { callee := Callee.value (Operand.func 43), args := #[Operand.tmp 35], argTypes := #[53] }, type := 53, pos := "book.go:252", after := #[{ on := 8, ground := Ground.data }], guard := Option.none }) rfl (fun K hK => ?_) AllReadyH.nil
  go_simp; refine (cloneC_any _ _ tx _ (H7.out.below HC7.out.low.drew) HN1.out).mono ?_; rintro e w8 ⟨⟨u1, rfl, ho⟩, b8⟩; have b8' := (Below.refl w7.heap.size w7).drew.trans b8; have HC8 := hid (HC7.out.keep b8'); have HU8 := hid (HU7.out.below b8'); have HV8 := hid (show ClsOwn w8 w.heap.size u1 tx (onSheet A 1) from ho.lower HC7.out.low.size); have HUV := hid (show ∀ h, (Value.slice ua um uc).ownBlock = some h → u1.ownBlock ≠ some h from fun h h0 h1 => Nat.lt_irrefl h (Nat.lt_of_lt_of_le (HU7.out.low h h0).2 (ho.low h h1).1)); obtain ⟨va, vm, vc, rfl, hvm⟩ := ho.view; have HSb1 := hid (show w8.cell? ⟨w.heap.size, 0, none⟩ = some (.slice (some ⟨gs, 0, none⟩) 2 gc) from cell_of HC8.out.b0 rfl); have t0 : w8.cell? ⟨gs, 3, none⟩ = some (.slice a1 n1 c1) := cell_of HC8.out.sh rfl; have f0 := free_of (i := 3) HC8.out.sh; have HSc1 := hid (show (w8.setCell ⟨gs, 3, none⟩ (.slice va vm vc)).cell? ⟨w.heap.size, 0, none⟩ = some (.slice (some ⟨gs, 0, none⟩) 2 gc) from cell_of (HC8.out.store1 _).b0 rfl); clear b8 b8' ho m0 q0 hvm
  refine hK.out _ _ HSb1.out (fun hS2 => ?_)
  clear hK K hS
  revert hS2; intro hS
  try simp only [Act.put, List.setIfInBounds_toArray, List.set_cons_zero, List.set_cons_succ]
  refine wpAnyH_take (i := 10) (oi := { dst := Option.some 37, op := Op.indexAddr 25 (Operand.tmp 28) (Operand.tmp 29), type := 0, pos := "book.go:252", after := #[{ on := 1, ground := Ground.data }, { on := 2, ground := Ground.data }, { on := 0, ground := Ground.phase }, { on := 1, ground := Ground.phase }, { on := 2, ground := Ground.phase }, { on := 3, ground := Ground.phase }, { on := 4, ground := Ground.phase }, { on := 5, ground := Ground.phase }, { on := 6, ground := Ground.phase }, { on := 7, ground := Ground.phase }, { on := 8, ground := Ground.phase }, { on := 9, ground := Ground.phase }], guard := Option.none }) (v := ?_) rfl (by kernel_rfl) (by kernel_rfl) (by kernel_rfl) (fun _ _ _ h => h) (Or.inl ⟨by rfl, ?_⟩) hS ?_
  rotate_left 1
  · rintro wx s0
    (go_simp <;> (try with_reducible rfl))
  try simp only [Act.put, List.setIfInBounds_toArray, List.set_cons_zero, List.set_cons_succ]
  refine wpAnyH_take (i := 11) (oi := { dst := Option.some 38, op := Op.fieldAddr 55 (Operand.tmp 37) 1, type := 0, pos := "book.go:252", after := #[{ on := 10, ground := Ground.data }, { on := 0, ground := Ground.phase }, { on := 1, ground := Ground.phase }, { on := 2, ground := Ground.phase }, { on := 3, ground := Ground.phase }, { on := 4, ground := Ground.phase }, { on := 5, ground := Ground.phase }, { on := 6, ground := Ground.phase }, { on := 7, ground := Ground.phase }, { on := 8, ground := Ground.phase }, { on := 9, ground := Ground.phase }], guard := Option.none }) (v := ?_) rfl (by kernel_rfl) (by kernel_rfl) (by kernel_rfl) (fun _ _ _ h => h) (Or.inl ⟨by rfl, ?_⟩) hS ?_
  rotate_left 1
  · rintro wx s0
    (go_simp <;> (try with_reducible rfl))
  try simp only [Act.put, List.setIfInBounds_toArray, List.set_cons_zero, List.set_cons_succ]
  refine wpAnyH_ready (rs := [12]) (by kernel_rfl) (by simp) ?_
  refine AllReadyH.cons (o := { dst := Option.none, op := Op.store 53 (Operand.tmp 38) (Operand.tmp 36), type := 0, pos := "book.go:252", after := #[{ on := 11, ground := Ground.data }, { on := 9, ground := Ground.data }, { on := 9, ground := Ground.chain }, { on := 0, ground := Ground.phase }, { on := 1, ground := Ground.phase }, { on := 2, ground := Ground.phase }, { on := 3, ground := Ground.phase }, { on := 4, ground := Ground.phase }, { on := 5, ground := Ground.phase }, { on := 6, ground := Ground.phase }, { on := 7, ground := Ground.phase }, { on := 8, ground := Ground.phase }, { on := 9, ground := Ground.phase }], guard := Option.none }) rfl (fun K hK => ?_) AllReadyH.nil
  go_simp
  refine hK.out _ _ HSc1.out (fun hS2 => ?_)
  clear hK K hS
  revert hS2; intro hS
  try simp only [Act.put, List.setIfInBounds_toArray, List.set_cons_zero, List.set_cons_succ]
  refine wpAnyH_done (by kernel_rfl) ?_ _
  have C9 := HC8.out.store1 (.slice va vm vc)
  have HU9 := hid (cls_store (i := 3) (u := .slice va vm vc) HU8.out HC8.out.sh)
  have HV9 := hid (cls_store (i := 3) (u := .slice va vm vc) HV8.out HC8.out.sh)
  clear hS t0 f0 HSa1 HSb1 HSc1 HU7 HU8 HV8
  generalize World.setCell w8 _ _ = w9 at C9 HU9 HV9 ⊢
  have HC9 := hid C9
  clear C9 HC8 HC7
  go_wp2_with fail
  rw [rounds_succ]
  have b2 : w9.cell? ⟨w.heap.size, 2, none⟩ = some (.slice none 0 0) := cell_of HC9.out.b0 rfl
  go_wp2_with fail
  refine wp_loop_rounds 1 ?_
  rw [rounds_succ]
  have d0 : w9.cell? ⟨w.heap.size, 0, none⟩ = some (.slice (some ⟨gs, 0, none⟩) 2 gc) := cell_of HC9.out.b0 rfl
  have d1 : w9.cell? ⟨w.heap.size, 1, none⟩ = some (.slice none 0 0) := cell_of HC9.out.b0 rfl
  have d3 : w9.cell? ⟨w.heap.size, 3, none⟩ = some (.slice none 0 0) := cell_of HC9.out.b0 rfl
  have r0 : w9.cell? ⟨w.heap.size + 1, 0, none⟩ = some (.slice none 0 0) := cell_of HC9.out.b1 rfl
  have r1 : w9.cell? ⟨w.heap.size + 1, 1, none⟩ = some (.slice none 0 0) := cell_of HC9.out.b1 rfl
  have r2 : w9.cell? ⟨w.heap.size + 1, 2, none⟩ = some (.slice none 0 0) := cell_of HC9.out.b1 rfl
  have r3 : w9.cell? ⟨w.heap.size + 1, 3, none⟩ = some (.slice none 0 0) := cell_of HC9.out.b1 rfl
  have f0 := free_of (i := 0) HC9.out.b1
  have f1 := free_of (i := 1) HC9.out.b1
  have f2 := free_of (i := 2) HC9.out.b1
  have f3 := free_of (i := 3) HC9.out.b1
  go_wp2_with fail
  refine bodyPost_ret (v := .agg (bookC gs 0 gc)) (by simp [results, Tryz.results23, go_sem, *]) rfl ?_
  have C9 := HC9.out
  have hc : ∀ (x0 x1 x2 x3 : Value), Chg [w.heap.size + 1] w9 ((((w9.setCell ⟨w.heap.size + 1, 0, none⟩ x0).setCell ⟨w.heap.size + 1, 1, none⟩ x1).setCell ⟨w.heap.size + 1, 2, none⟩ x2).setCell ⟨w.heap.size + 1, 3, none⟩ x3) := fun x0 x1 x2 x3 => ((((Chg.refl _ w9).setCell (.inl (by simp)) _).setCell (.inl (by simp)) _).setCell (.inl (by simp)) _).setCell (.inl (by simp)) _
  have hcc := hc (.slice (some ⟨gs, 0, none⟩) 2 gc) (.slice none 0 0) (.slice none 0 0) (.slice none 0 0)
  have hn : gs ≠ w.heap.size + 1 := heap_ne C9.sh C9.b1 (by decide)
  have hb : ∀ {v : Value} {l : List PAt}, ClsOwn w9 w.heap.size v tx l → ∀ g, v.ownBlock = some g → g ∉ [w.heap.size + 1] := fun {v l} h g hg hm => by
    simp only [List.mem_singleton] at hm
    subst hm
    rcases h.2 with ⟨rfl, _⟩ | ⟨g', cap, cur, rfl, _, hg', _⟩
    · cases hg
    · cases hg
      exact heap_ne hg' C9.b1 (by decide) rfl
  exact ⟨⟨_, rfl, ⟨⟨gs, gc, _, _, S, rfl, HGC.out, C9.lo, hcc.heap C9.sh (by simpa using hn), HU9.out.chg hcc (hb HU9.out), HV9.out.chg hcc (hb HV9.out), HUV.out⟩⟩⟩, C9.low.trans (hcc.below (fun x hx => by simp at hx; omega) C9.low.size)⟩
end Go.Proofs.YthkjmplcmfabfaaGreatDoor
