/- copy and clear on a row whose elements have several cells, as laws for the walk. No condition. Contract of slices.Delete at cells, one of them. No condition. Contract of slices.Insert at cells, one of them, ahead of the end: where there is room, and where there is none. No condition. Contract of slices.Insert at cells, one of them, ahead of the end, where there is no room. No condition. -/
import Derived.Test.YthkjmplcmfabfaaGreatDoorDkBase
import Derived.Deep.RegionLaw
import Derived.Lib.AppendZerosOnto
import Derived.Lib.Overlaps
import Derived.Lib.SliceRun
import Derived.Test.YthkjmplcmfabfaaGreatDoorSpSmall
import Derived.Maps.AppendAt
import Derived.Laws.NewBlocks

/- copy and clear on a row whose elements have several cells, as laws for the walk. No condition. -/
namespace Go.Proofs.YthkjmplcmfabfaaGreatDoor
open Go.RowKit Go.Lib

theorem run_copy_rowK {P : Program} (w : World) (dT sT ty elem : TypeId) (k : Nat) (g o dLen dCap : Nat) (a : Addr) (sLen sCap : Nat) (cur : Array Value) (t : TypeId) (cs : List Value)
    (hu : P.underlying dT = some (.slice elem)) (hs : (P.info? elem).map (·.size) = some k)
    (hg : w.heap[g]? = some (.cells cur t (0, 0))) (m : Nat) (hm : Nat.min sLen dLen = m) (hn : cs.length = m * k)
    (hsrc : ∀ j v, cs[j]? = some v → w.cell? (a.add j) = some v) (hfit : o + cs.length ≤ cur.size) (h1 : ∀ v ∈ cs, v.oneCell' = true) :
    (Builtin.copy_ #[dT, sT] ty #[.slice (some ⟨g, o, none⟩) dLen dCap, .slice (some a) sLen sCap]).run P w =
      .ok (goInt m) (w.setRow g (cur.toList.take o ++ cs ++ cur.toList.drop (o + cs.length)).toArray) := by
  have hl := run_loadCells_list (P := P) w a cs hsrc
  have hst := run_storeCells_at P g o t cs 0 cur w hg (by simpa using hfit) h1
  cases hq : P.info? elem with
  | none => simp [hq] at hs
  | some i =>
    have hi : i.size = k := by simpa [hq] using hs
    simp [Builtin.copy_, run_underlying hu, Builtin.lenOf, Builtin.firstCells, sizeOf, typeInfo, hq, hi, hm, ← hn, hl, hst]

section
variable {P : Program} {w : World} {ops : Array Oper} {rest : List Oper} {o : Oper} {a : Act} {Q : Exit → Act → World → Prop}
theorem wpList_copy_spliceK (hgd : o.guard = none) (d s : Operand) (dT sT : TypeId)
    (ho : o.op = .call { callee := .builtin .copy, args := #[d, s], argTypes := #[dT, sT] }) (elem : TypeId) (k : Nat) (hu : P.underlying dT = some (.slice elem)) (hsz : (P.info? elem).map (·.size) = some k)
    (g off dLen dCap : Nat) (ad : Addr) (sLen sCap : Nat) (hd : a.eval d = .slice (some ⟨g, off, none⟩) dLen dCap) (hs : a.eval s = .slice (some ad) sLen sCap)
    (cur : List Value) (t : TypeId) (hg : w.heap[g]? = some (.cells cur.toArray t (0, 0))) (cs : List Value) (m : Nat) (hm : Nat.min sLen dLen = m) (hn : cs.length = m * k)
    (hsrc : ∀ j v, cs[j]? = some v → w.cell? (ad.add j) = some v) (hfit : off + cs.length ≤ cur.length) (h1 : ∀ v ∈ cs, v.oneCell' = true) (F : List Nat) (w0 : World) (hb : Chg F w0 w) (hF : g ∈ F ∨ w0.heap.size ≤ g)
    (h : ∀ w', Hid (w'.heap[g]? = some (.cells (splice cur off cs).toArray t (0, 0))) → Hid (Chg F w0 w') → wpList P ops Q rest (a.put o.dst (goInt m)) w') :
    wpList P ops Q (o :: rest) a w := by
  refine wpList_plain hgd fun K hK => ?_
  have hrun := run_copy_rowK (P := P) w dT sT o.type elem k g off dLen dCap ad sLen sCap cur.toArray t cs hu hsz hg m hm hn hsrc (by simpa using hfit) h1
  unfold Oper.wp
  simp [execOp, ho, resolve, invoke, builtin, hd, hs, hrun, Result.andThen]
  exact hK _ _ (h _ (show _ = _ by simpa [splice] using setRow_heap w g _ _ t _ hg) (hb.setRow hF _))

theorem step_copy_spliceK {K : Act → World → Prop} {E : Prop} (hgd : o.guard = none) (d s : Operand) (dT sT : TypeId)
    (ho : o.op = .call { callee := .builtin .copy, args := #[d, s], argTypes := #[dT, sT] }) (elem : TypeId) (k : Nat) (hu : P.underlying dT = some (.slice elem)) (hsz : (P.info? elem).map (·.size) = some k)
    (g off dLen dCap : Nat) (ad : Addr) (sLen sCap : Nat) (hd : a.eval d = .slice (some ⟨g, off, none⟩) dLen dCap) (hs : a.eval s = .slice (some ad) sLen sCap)
    (cur : List Value) (t : TypeId) (hg : w.heap[g]? = some (.cells cur.toArray t (0, 0))) (cs : List Value) (m : Nat) (hm : Nat.min sLen dLen = m) (hn : cs.length = m * k)
    (hsrc : ∀ j v, cs[j]? = some v → w.cell? (ad.add j) = some v) (hfit : off + cs.length ≤ cur.length) (h1 : ∀ v ∈ cs, v.oneCell' = true) (F : List Nat) (w0 : World) (hb : Chg F w0 w) (hF : g ∈ F ∨ w0.heap.size ≤ g)
    (h : ∀ w', Hid (w'.heap[g]? = some (.cells (splice cur off cs).toArray t (0, 0))) → Hid (Chg F w0 w') → K (a.put o.dst (goInt m)) w') :
    if Region.wanted o (yielded ops a.tmps) = true then Oper.wp P o a w K Q else E := by
  have hw : Region.wanted o (yielded ops a.tmps) = true := by simp [Region.wanted, hgd]
  rw [if_pos hw]
  have hrun := run_copy_rowK (P := P) w dT sT o.type elem k g off dLen dCap ad sLen sCap cur.toArray t cs hu hsz hg m hm hn hsrc (by simpa using hfit) h1
  unfold Oper.wp
  simp [execOp, ho, resolve, invoke, builtin, hd, hs, hrun, Result.andThen]
  exact h _ (show _ = _ by simpa [splice] using setRow_heap w g _ _ t _ hg) (hb.setRow hF _)

/-- append where there is room, onto a row that is known whole: the cells that are written may be the row's own -/
theorem step_append_spliceK {K : Act → World → Prop} {E : Prop} (hgd : o.guard = none) (s x : Operand) (t : TypeId) (hop : o.op = Op.call { callee := Callee.builtin Builtin.append, args := #[s, x], argTypes := #[t, t] })
    (e : TypeId) (i : TypeInfo) (size : Nat) (h1 : P.underlying t = some (.slice e)) (h2 : P.info? e = some i) (h4 : i.size = size)
    (g n cap : Nat) (hs : a.eval s = .slice (some ⟨g, 0, none⟩) n cap)
    (ad : Addr) (m c : Nat) (cur : List Value) (hg : w.heap[g]? = some (.cells cur.toArray e (0, 0))) (news : List Value) (hx : a.eval x = .slice (some ad) m c) (hn : news.length = m * size) (hc : ∀ j u, news[j]? = some u → w.cell? (ad.add j) = some u) (h1c : ∀ u ∈ news, u.oneCell' = true)
    (hroom : n + m ≤ cap) (hfit : n * size + news.length ≤ cur.length) (F : List Nat) (w0 : World) (hb : Chg F w0 w) (hF : g ∈ F ∨ w0.heap.size ≤ g)
    (h : ∀ w', Hid (w'.heap[g]? = some (.cells (splice cur (n * size) news).toArray e (0, 0))) → Hid (Chg F w0 w') → K (a.put o.dst (.slice (some ⟨g, 0, none⟩) (n + m) cap)) w') :
    if Region.wanted o (yielded ops a.tmps) = true then Oper.wp P o a w K Q else E := by
  have hw : Region.wanted o (yielded ops a.tmps) = true := by simp [Region.wanted, hgd]
  rw [if_pos hw]
  subst h4
  have hrun := run_append_room (P := P) w t o.type e i h1 h2 g n cap cur.toArray hg ad m c news hn hc h1c hroom (by simpa using hfit)
  unfold Oper.wp
  simp [execOp, hop, resolve, invoke, builtin, hs, hx, hrun, Result.andThen]
  exact h _ (show _ = _ by simpa [splice] using setRow_heap w g _ _ e _ hg) (hb.setRow hF _)
end

/-- clear on a part of a row that is known whole -/
theorem run_clear_row {P : Program} (w : World) (t e ty : TypeId) (z : Value) (ht : P.underlying t = some (.slice e)) (hv : ∀ w, (zeroValue e).run P w = .ok z w) (g o n c : Nat) (hn : 0 < n) (cur : List Value) (tt : TypeId)
    (hg : w.heap[g]? = some (.cells cur.toArray tt (0, 0))) (zs : List Value) (hz : (Builtin.zeroCells z.cells n).toList = zs) (h1 : ∀ v ∈ zs, v.oneCell' = true) (hfit : o + zs.length ≤ cur.length) :
    (Builtin.clear_ #[t] ty #[.slice (some ⟨g, o, none⟩) n c]).run P w = .ok (.tuple #[]) (w.setRow g (splice cur o zs).toArray) := by
  have hst := run_storeCells_at P g o tt zs 0 cur.toArray w hg (by simpa using hfit) h1
  obtain ⟨m, rfl⟩ : ∃ m, n = m + 1 := ⟨n - 1, by omega⟩
  simp only [Nat.add_zero] at hst
  simp [Builtin.clear_, run_underlying ht, hv, hz, hst, splice]
end Go.Proofs.YthkjmplcmfabfaaGreatDoor

/- Contract of slices.Delete at cells, one of them. No condition. -/
namespace Go.Proofs.YthkjmplcmfabfaaGreatDoor
open Go.RowKit Go.Lib

def zeroC : List Value := [.int .i64 0, .int .i64 0, .string ⟨#[]⟩]
theorem cell_info : (Tryz.prog.info? 58).map (fun i => (i.zero, i.size, i.bytes)) = some (some (.agg #[.int .i64 0, .int .i64 0, .string ⟨#[]⟩]), 3, 32) := by kernel_rfl
theorem zero_one : (Builtin.zeroCells (Value.agg #[.int .i64 0, .int .i64 0, .string ⟨#[]⟩]).cells 1).toList = zeroC := by
  simp [Builtin.zeroCells, Value.cells, zeroC, List.range, List.range.loop]
set_option maxRecDepth 20000 in
set_option maxHeartbeats 1000000 in
theorem delRow_any (w : World) (g i k cap : Nat) (X Y Z S : List Value) (hg : w.heap[g]? = some (.cells (X ++ (Y ++ (Z ++ S))).toArray 58 (0, 0))) (hX : X.length = i * 3) (hY : Y.length = 3) (hZ : Z.length = k * 3) (hS : i + 1 + k ≤ cap) (hm : cap ≤ 9223372036854775807)
    (h1 : ∀ u, u ∈ Z → u.oneCell' = true) :
    Calls Tryz.prog 25 #[.slice (some ⟨g, 0, none⟩) (i + 1 + k) cap, .int .i64 i, .int .i64 ((i : Int) + 1)] w fun e w' => e = .returned (.slice (some ⟨g, 0, none⟩) (i + k) cap) ∧ w'.heap[g]? = some (.cells (X ++ (Z ++ (zeroC ++ S))).toArray 58 (0, 0)) ∧ Chg [g] w w' := by
  obtain ⟨i0, hi, hz0, hz1, hz2⟩ := info_parts cell_info
  have hv : ∀ w, (zeroValue 58).run Tryz.prog w = .ok (.agg #[.int .i64 0, .int .i64 0, .string ⟨#[]⟩]) w := fun w => by simp [zeroValue, typeInfo, hi, hz0]
  obtain ⟨A, hA, hsrc⟩ : ∃ A : Addr, (if cap = i + 1 then some (⟨g, 0, none⟩ : Addr) else some ⟨g, (i + 1) * 3, none⟩) = some A ∧ Hid (∀ j u, Z[j]? = some u → w.drew.cell? (A.add j) = some u) := by
    by_cases h : cap = i + 1
    · refine ⟨⟨g, 0, none⟩, by simp [h], fun t u hu => ?_⟩
      have h0 : Z.length = 0 := by omega
      rw [List.length_eq_zero_iff.1 h0] at hu
      simp at hu
    · refine ⟨⟨g, (i + 1) * 3, none⟩, by simp [h], fun t u hu => ?_⟩
      rw [Addr.add_lit]
      refine (cell_of (i := (i + 1) * 3 + t) hg ?_ : w.cell? _ = _)
      rw [List.getElem?_toArray, List.getElem?_append_right (by omega), List.getElem?_append_right (by omega), List.getElem?_append_left (by have := (List.getElem?_eq_some_iff.1 hu).1; omega), ← hu]
      congr 1
      omega
  have HG := hid (show w.drew.heap[g]? = some (.cells (X ++ (Y ++ (Z ++ S))).toArray 58 (0, 0)) from hg)
  have HC := hid ((Chg.refl [g] w).drew)
  have HZ := hid hZ
  have H1 := hid h1
  have HF := hid (show i * 3 + Z.length ≤ (X ++ (Y ++ (Z ++ S))).length by simp; omega)
  have HS1 := hid (show splice (X ++ (Y ++ (Z ++ S))) (i * 3) Z = X ++ (Z ++ ((Y ++ (Z ++ S)).drop (k * 3))) by
    unfold splice
    rw [← hX, List.take_left, ← List.drop_drop, List.drop_left, hZ])
  have HL1 := hid (show i * 3 + k * 3 + 3 ≤ (X ++ (Z ++ ((Y ++ (Z ++ S)).drop (k * 3)))).length by simp; omega)
  have HS2 := hid (show splice (X ++ (Z ++ ((Y ++ (Z ++ S)).drop (k * 3)))) ((i + k) * 3) zeroC = X ++ (Z ++ (zeroC ++ S)) by
    unfold splice
    have e1 : (X ++ Z).length = (i + k) * 3 := by rw [List.length_append, hX, hZ, Nat.add_mul]
    rw [← List.append_assoc X Z, ← e1, List.take_left, ← List.drop_drop, List.drop_left, List.drop_drop, List.append_assoc]
    congr 3
    have e2 : (Y ++ Z).length = k * 3 + 3 := by rw [List.length_append, hY, hZ]; omega
    rw [← List.append_assoc Y Z, show k * 3 + zeroC.length = (Y ++ Z).length by rw [e2]; rfl, List.drop_left])
  have hic : i ≤ cap := by omega
  have hjc : i + 1 ≤ cap := by omega
  have hik : i + k ≤ cap := by omega
  have g1 : (0 : Int) ≤ (i : Int) + 1 := by omega
  have g2 : (i : Int) + 1 ≤ (i : Int) + 1 + (k : Int) := by omega
  have g3 : (i : Int) + (k : Int) ≤ (i : Int) + 1 + (k : Int) := by omega
  clear hg hX hY hZ h1
  go_enter Tryz.func25, Tryz.ntmps25
  go_wp2_with fail
  go_region_law (refine step_append_spliceK rfl (.tmp 22) (.tmp 25) 53 rfl 58 i0 3 Tryz.underlying53 hi hz1 g i cap (by simp [Act.eval, Act.put]) A k (cap - (i + 1)) (X ++ (Y ++ (Z ++ S))) HG.out Z (by simp [Act.eval, Act.put]) HZ.out hsrc.out H1.out (by omega) HF.out [g] w HC.out (.inl (by simp)) ?_; intro w1 hg1 hc1)
  have hg2 := hg1.out
  rw [HS1.out] at hg2
  obtain ⟨W2, hW2⟩ : ∃ W2, W2 = w1.setRow g (X ++ (Z ++ (zeroC ++ S))).toArray := ⟨_, rfl⟩
  have hcl : ∀ ty c, (Builtin.clear_ #[53] ty #[.slice (some ⟨g, (i + k) * 3, none⟩) (i + 1 + k - (i + k)) c]).run Tryz.prog w1 = .ok (.tuple #[]) W2 := fun ty c => by
    have := run_clear_row w1 53 58 ty _ Tryz.underlying53 hv g ((i + k) * 3) (i + 1 + k - (i + k)) c (by omega) _ _ hg2 zeroC (by rw [show i + 1 + k - (i + k) = 1 by omega]; exact zero_one) (by simp [zeroC, Value.oneCell']) (by have := HL1.out; simp only [zeroC, List.length_cons, List.length_nil]; omega)
    rw [HS2.out] at this
    rw [hW2]
    exact this
  have HW2 := hid hW2
  have HG2 := hid hg2
  clear hW2 hg2 hv hA
  go_wp2_with fail
  go_ret
  refine ⟨rfl, ?_, ?_⟩
  · rw [HW2.out]
    exact heap_setRow_at HG2.out
  · rw [HW2.out]
    exact hc1.out.setRow (.inl (by simp)) _
end Go.Proofs.YthkjmplcmfabfaaGreatDoor

/- Contract of slices.Insert at cells, one of them, ahead of the end: where there is room, and where there is none. No condition. -/
namespace Go.Proofs.YthkjmplcmfabfaaGreatDoor
open Go.RowKit Go.Lib

set_option maxRecDepth 20000 in
set_option maxHeartbeats 1000000 in
theorem insRoom_any (w : World) (g i k cap vb : Nat) (X Z S V : List Value) (hg : w.heap[g]? = some (.cells (X ++ (Z ++ S)).toArray 58 (0, 0))) (hv : w.heap[vb]? = some (.cells V.toArray 58 (0, 0))) (hne : vb ≠ g)
    (hX : X.length = i * 3) (hZ : Z.length = k * 3) (hV : V.length = 3) (hk : 0 < k) (hS : 3 ≤ S.length) (hc : i + k + 1 ≤ cap) (hm : cap ≤ 9223372036854775807) (h1 : ∀ u, u ∈ Z → u.oneCell' = true) (h2 : ∀ u, u ∈ V → u.oneCell' = true) :
    Calls Tryz.prog 26 #[.slice (some ⟨g, 0, none⟩) (i + k) cap, .int .i64 i, .slice (some ⟨vb, 0, none⟩) 1 1] w fun e w' => e = .returned (.slice (some ⟨g, 0, none⟩) (i + k + 1) cap) ∧ w'.heap[g]? = some (.cells (X ++ (V ++ (Z ++ S.drop 3))).toArray 58 (0, 0)) ∧ Chg [g] w w' := by
  have hsz : (Tryz.prog.info? 58).map (·.size) = some 3 := by
    obtain ⟨i0, hi, hz0, hz1, hz2⟩ := info_parts cell_info
    rw [hi]; simp [hz1]
  have hov : ∀ lb cb, (callFunc 47 #[.slice (some ⟨vb, 0, none⟩) 1 1, .slice (some ⟨g, (i + 1) * 3, none⟩) lb cb]).run Tryz.prog w = .ok (.value (.bool false)) w := fun lb cb => by
    rw [run_callFunc_extern Tryz.func47 (by kernel_rfl) (by kernel_rfl) (by kernel_rfl) (e := Extern.SlicesOverlaps.overlaps #[53, 53] #[4]) (by kernel_rfl),
      Lib.run_overlaps_apart w 53 4 58 Tryz.underlying53 3 (fun w => by
        obtain ⟨i0, hi, hz0, hz1, hz2⟩ := info_parts cell_info
        simp [sizeOf, typeInfo, hi, hz1]) ⟨vb, 0, none⟩ ⟨g, (i + 1) * 3, none⟩ 1 1 lb cb hne 58 58 3 (X ++ (Z ++ S)).length (by simp [World.shape?, hv, hV]) (by simp [World.shape?, hg]) (by simp only [List.length_append]; omega) (free_of hv) (free_of hv)]
    rfl
  have HG := hid (show w.drew.heap[g]? = some (.cells (X ++ (Z ++ S)).toArray 58 (0, 0)) from hg)
  have HC := hid ((Chg.refl [g] w).drew)
  have HZ := hid hZ
  have HV := hid hV
  have H1 := hid h1
  have H2 := hid h2
  have HF := hid (show (i + 1) * 3 + Z.length ≤ (X ++ (Z ++ S)).length by simp only [List.length_append]; omega)
  have HSRC := hid (show ∀ j u, Z[j]? = some u → w.drew.cell? ((⟨g, i * 3, none⟩ : Addr).add j) = some u from fun j u hu => by
    rw [Addr.add_lit]
    refine cell_of (i := i * 3 + j) HG.out ?_
    rw [List.getElem?_toArray, List.getElem?_append_right (by omega), List.getElem?_append_left (by have := (List.getElem?_eq_some_iff.1 hu).1; omega), ← hu]
    congr 1
    omega)
  have HVS := hid (show ∀ y, Chg [g] w y → ∀ j u, V[j]? = some u → y.cell? ((⟨vb, 0, none⟩ : Addr).add j) = some u from fun y hy j u hu => by
    rw [Addr.add_lit]
    exact cell_of (hy.heap hv (by simpa using hne)) (by simpa using hu))
  have HS1 := hid (show splice (X ++ (Z ++ S)) ((i + 1) * 3) Z = X ++ (Z.take 3 ++ (Z ++ S.drop 3)) by
    unfold splice
    have e1 : (X ++ (Z ++ S)).take ((i + 1) * 3) = X ++ Z.take 3 := by
      rw [show (i + 1) * 3 = X.length + 3 by omega, List.take_length_add_append, List.take_append_of_le_length (by omega)]
    have e2 : (X ++ (Z ++ S)).drop ((i + 1) * 3 + Z.length) = S.drop 3 := by
      rw [show (i + 1) * 3 + Z.length = X.length + (Z.length + 3) by omega, List.drop_length_add_append, List.drop_length_add_append]
    rw [e1, e2, List.append_assoc])
  have HF2 := hid (show i * 3 + V.length ≤ (X ++ (Z.take 3 ++ (Z ++ S.drop 3))).length by simp; omega)
  have HS2 := hid (show splice (X ++ (Z.take 3 ++ (Z ++ S.drop 3))) (i * 3) V = X ++ (V ++ (Z ++ S.drop 3)) by
    unfold splice
    have e3 : (Z.take 3).length = 3 := by rw [List.length_take]; omega
    rw [← hX, List.take_left, ← List.drop_drop, List.drop_left, List.drop_left' (e3.trans hV.symm)])
  have g1 : (0 : Int) ≤ (i : Int) + 1 := by omega
  have g2 : (i : Int) + 1 ≤ (i : Int) + (k : Int) + 1 := by omega
  have g3 : (i : Int) ≤ (i : Int) + (k : Int) + 1 := by omega
  have g4 : (i : Int) + (k : Int) + 1 ≤ (cap : Int) := by omega
  have g5 : ¬ ((i : Int) = (i : Int) + (k : Int)) := by omega
  have g6 : (i : Int) ≤ (i : Int) + (k : Int) := by omega
  have hw : IntKind.i64.wrap ((i : Int) + 1) = (i : Int) + 1 := by rw [IntKind.wrap_i64]; omega
  have htn : ((i : Int) + 1).toNat = i + 1 := by omega
  have hb2 : ¬ (cap = i + 1) := by omega
  have hb3 : ¬ (cap = i) := by omega
  clear hg hX hZ hV h1 h2 hv
  go_enter Tryz.func26, Tryz.ntmps26
  go_wp2_with (simp only [hov])
  go_region_law (refine step_copy_spliceK rfl (.tmp 73) (.tmp 76) 53 53 rfl 58 3 Tryz.underlying53 hsz g ((i + 1) * 3) (i + k + 1 - (i + 1)) (cap - (i + 1)) ⟨g, i * 3, none⟩ (i + k + 1 - i) (cap - i) (by simp [Act.eval, Act.put]) (by simp [Act.eval, Act.put]) (X ++ (Z ++ S)) 58 HG.out Z k (by rw [show i + k + 1 - i = k + 1 by omega, show i + k + 1 - (i + 1) = k by omega]; exact Nat.min_eq_right (Nat.le_succ k)) HZ.out HSRC.out HF.out H1.out [g] w HC.out (.inl (by simp)) ?_; intro w1 hg1 hc1)
  have HG1 := hid (show w1.heap[g]? = some (.cells (X ++ (Z.take 3 ++ (Z ++ S.drop 3))).toArray 58 (0, 0)) by rw [← HS1.out]; exact hg1.out)
  obtain ⟨W2, hW2⟩ : ∃ W2, W2 = w1.setRow g (X ++ (V ++ (Z ++ S.drop 3))).toArray := ⟨_, rfl⟩
  have hcp : ∀ ty dc, (Builtin.copy_ #[53, 53] ty #[.slice (some ⟨g, i * 3, none⟩) (i + k + 1 - i) dc, .slice (some ⟨vb, 0, none⟩) 1 1]).run Tryz.prog w1 = .ok (goInt 1) W2 := fun ty dc => by
    have := run_copy_rowK (P := Tryz.prog) w1 53 53 ty 58 3 g (i * 3) (i + k + 1 - i) dc ⟨vb, 0, none⟩ 1 1 _ 58 V Tryz.underlying53 hsz HG1.out 1 (Nat.min_eq_left (by omega)) HV.out (HVS.out _ hc1.out) (by simpa using HF2.out) H2.out
    rw [this, hW2, ← HS2.out]
    simp [splice]
  have HW2 := hid hW2
  clear hW2
  go_wp2_with fail
  go_ret
  refine ⟨rfl, ?_, ?_⟩
  · rw [HW2.out]
    exact heap_setRow_at HG1.out
  · rw [HW2.out]
    exact hc1.out.setRow (.inl (by simp)) _
end Go.Proofs.YthkjmplcmfabfaaGreatDoor

/- Contract of slices.Insert at cells, one of them, ahead of the end, where there is no room. No condition. -/
namespace Go.Proofs.YthkjmplcmfabfaaGreatDoor
open Go.RowKit Go.Lib

set_option maxRecDepth 20000 in
set_option maxHeartbeats 1000000 in
theorem insGrow_any (w : World) (g i k cap vb : Nat) (X Z S V : List Value) (hg : w.heap[g]? = some (.cells (X ++ (Z ++ S)).toArray 58 (0, 0))) (hv : w.heap[vb]? = some (.cells V.toArray 58 (0, 0)))
    (hX : X.length = i * 3) (hZ : Z.length = k * 3) (hV : V.length = 3) (hk : 0 < k) (hc : i + k ≤ cap) (hc2 : cap < i + k + 1) (hm : i + k ≤ 1000000) (h1 : ∀ u, u ∈ Z → u.oneCell' = true) (h2 : ∀ u, u ∈ V → u.oneCell' = true) :
    Calls Tryz.prog 26 #[.slice (some ⟨g, 0, none⟩) (i + k) cap, .int .i64 i, .slice (some ⟨vb, 0, none⟩) 1 1] w fun e w' => (∃ G T, e = .returned (.slice (some ⟨w.heap.size, 0, none⟩) (i + k + 1) G) ∧ w'.heap[w.heap.size]? = some (.cells (X ++ (V ++ (Z ++ T))).toArray 58 (0, 0)) ∧ T.length = (G - (i + k + 1)) * 3 ∧ i + k + 1 ≤ G ∧ G ≤ maxLen) ∧ Chg [] w w' := by
  obtain ⟨i0, hi, hz0, hz1, hz2⟩ := info_parts cell_info
  have hsz : (Tryz.prog.info? 58).map (·.size) = some 3 := by rw [hi]; simp [hz1]
  have hgw := heap_lt hg
  have hvw := heap_lt hv
  have hold : (Builtin.firstCells i0.size i (.slice (some ⟨g, 0, none⟩) i cap)).run Tryz.prog w.drew = .ok X.toArray w.drew :=
    run_firstCells_some w.drew i0.size i ⟨g, 0, none⟩ i cap X (by rw [hX, hz1]) (fun j v hj => by
      rw [Addr.add_lit]
      refine (cell_of (i := 0 + j) hg ?_ : w.cell? _ = _)
      rw [List.getElem?_toArray, List.getElem?_append_left (by have := (List.getElem?_eq_some_iff.1 hj).1; omega), ← hj]
      simp)
  obtain ⟨G, hG⟩ : ∃ G, G = grownCap w (i + k + 1) cap 58 := ⟨_, rfl⟩
  have hGn : i + k + 1 ≤ G := by rw [hG]; exact grownCap_ge w _ _ _
  have hGm : G ≤ maxLen := by rw [hG]; exact grownCap_le_maxLen w _ _ _ (by unfold maxLen; omega)
  obtain ⟨U, hU⟩ : ∃ U : List Value, U = (Builtin.zeroCells (Value.agg #[.int .i64 0, .int .i64 0, .string ⟨#[]⟩]).cells (k + 1)).toList := ⟨_, rfl⟩
  obtain ⟨T, hT⟩ : ∃ T : List Value, T = (Builtin.zeroCells (Value.agg #[.int .i64 0, .int .i64 0, .string ⟨#[]⟩]).cells (G - (i + k + 1))).toList := ⟨_, rfl⟩
  have hUl : U.length = (k + 1) * 3 := by rw [hU, Array.length_toList, size_zeroCells]; rfl
  have hTl : T.length = (G - (i + k + 1)) * 3 := by rw [hT, Array.length_toList, size_zeroCells]; rfl
  obtain ⟨W1, hW1⟩ : ∃ W1, W1 = w.drew.alloc (.cells (X ++ (U ++ T)).toArray 58) := ⟨_, rfl⟩
  have hap : ∀ ty, (Builtin.append_ #[53, 3] ty #[.slice (some ⟨g, 0, none⟩) i cap, .int .i64 ((k : Int) + 1)]).run Tryz.prog w = .ok (.slice (some ⟨w.heap.size, 0, none⟩) (i + k + 1) G) W1 := fun ty => by
    have h := Lib.run_append_grow_zeros (P := Tryz.prog) w 53 3 ty 58 i0 _ .i64 .i64 Tryz.underlying53 Tryz.underlying3 hi hz0 (some ⟨g, 0, none⟩) i cap X hold (k + 1) (by omega) (by rw [hz1]; omega) (by omega) (by omega) (by rw [hz2]; omega) (by rw [hz2]; exact growslice_fits (by omega) (by omega))
    rw [show i + (k + 1) = i + k + 1 by omega, ← hG] at h
    rw [hW1]
    refine (show _ = _ from ?_).trans (h.trans ?_)
    · rfl
    · congr 2
      rw [hU, hT]
      simp
  have HG0 := hid (show W1.heap[g]? = some (.cells (X ++ (Z ++ S)).toArray 58 (0, 0)) by rw [hW1]; exact (heap_alloc_old w.drew _ hgw).trans hg)
  have HV0 := hid (show W1.heap[vb]? = some (.cells V.toArray 58 (0, 0)) by rw [hW1]; exact (heap_alloc_old w.drew _ hvw).trans hv)
  have HN0 := hid (show W1.heap[w.heap.size]? = some (.cells (X ++ (U ++ T)).toArray 58 (0, 0)) by rw [hW1]; exact heap_alloc_new w.drew _)
  have HC0 := hid (show Chg [] w W1 by rw [hW1]; exact (Chg.refl [] w).drew.alloc _)
  have HF1 := hid (show i * 3 + V.length ≤ (X ++ (U ++ T)).length by simp only [List.length_append]; omega)
  have HS1 := hid (show splice (X ++ (U ++ T)) (i * 3) V = X ++ (V ++ (U ++ T).drop 3) by
    unfold splice
    rw [← hX, List.take_left, ← List.drop_drop, List.drop_left, hV])
  have HF2 := hid (show (i + 1) * 3 + Z.length ≤ (X ++ (V ++ (U ++ T).drop 3)).length by simp only [List.length_append, List.length_drop]; omega)
  have HS2 := hid (show splice (X ++ (V ++ (U ++ T).drop 3)) ((i + 1) * 3) Z = X ++ (V ++ (Z ++ T)) by
    have e1 : (X ++ V).length = (i + 1) * 3 := by rw [List.length_append, hX, hV]; omega
    unfold splice
    rw [← List.append_assoc X V, ← e1, List.take_left, ← List.drop_drop, List.drop_left, List.drop_drop, List.append_assoc, List.drop_left' (by omega)])
  have HT := hid hTl
  have HZ := hid hZ
  have HV := hid hV
  have H1 := hid h1
  have H2 := hid h2
  have HGn := hid hGn
  have HGm := hid hGm
  obtain ⟨W2, hW2⟩ : ∃ W2, W2 = W1.setRow w.heap.size (X ++ (V ++ (U ++ T).drop 3)).toArray := ⟨_, rfl⟩
  have hcp : ∀ ty dc, (Builtin.copy_ #[53, 53] ty #[.slice (some ⟨w.heap.size, i * 3, none⟩) (i + k + 1 - i) dc, .slice (some ⟨vb, 0, none⟩) 1 1]).run Tryz.prog W1 = .ok (goInt 1) W2 := fun ty dc => by
    have := run_copy_rowK (P := Tryz.prog) W1 53 53 ty 58 3 w.heap.size (i * 3) (i + k + 1 - i) dc ⟨vb, 0, none⟩ 1 1 _ 58 V Tryz.underlying53 hsz HN0.out 1 (Nat.min_eq_left (by omega)) hV (fun j u hu => by
      rw [Addr.add_lit]
      exact cell_of HV0.out (by simpa using hu)) (by simpa using HF1.out) h2
    rw [this, hW2, ← HS1.out]
    simp [splice]
  have HN2 := hid (show W2.heap[w.heap.size]? = some (.cells (X ++ (V ++ (U ++ T).drop 3)).toArray 58 (0, 0)) by rw [hW2]; exact heap_setRow_at HN0.out)
  have HG2 := hid (show W2.heap[g]? = some (.cells (X ++ (Z ++ S)).toArray 58 (0, 0)) by rw [hW2]; exact heap_setRow_far HG0.out (by omega) _)
  have HC2 := hid (show Chg [] w W2 by rw [hW2]; exact HC0.out.setRow (.inr (Nat.le_refl _)) _)
  have HZS := hid (show ∀ j u, Z[j]? = some u → W2.drew.cell? ((⟨g, i * 3, none⟩ : Addr).add j) = some u from fun j u hu => by
    rw [Addr.add_lit]
    refine (cell_of (i := i * 3 + j) HG2.out ?_ : W2.cell? _ = _)
    rw [List.getElem?_toArray, List.getElem?_append_right (by omega), List.getElem?_append_left (by have := (List.getElem?_eq_some_iff.1 hu).1; omega), ← hu]
    congr 1
    omega)
  have hG63 : G ≤ 9223372036854775807 := by unfold maxLen at hGm; omega
  have g1 : (0 : Int) ≤ (i : Int) + 1 := by omega
  have g2 : (i : Int) + 1 ≤ (i : Int) + (k : Int) + 1 := by omega
  have g3 : (i : Int) ≤ (i : Int) + (k : Int) + 1 := by omega
  have g4 : (cap : Int) < (i : Int) + (k : Int) + 1 := by omega
  have g5 : ¬ ((i : Int) = (i : Int) + (k : Int)) := by omega
  have g6 : (i : Int) ≤ (i : Int) + (k : Int) := by omega
  have g7 : (i : Int) + (k : Int) + 1 - (i : Int) = (k : Int) + 1 := by omega
  have g8 : i ≤ cap := by omega
  have hw : IntKind.i64.wrap ((i : Int) + 1) = (i : Int) + 1 := by rw [IntKind.wrap_i64]; omega
  have htn : ((i : Int) + 1).toNat = i + 1 := by omega
  have hb2 : ¬ (G = i + 1) := by omega
  have hb3 : ¬ (G = i) := by omega
  have hb4 : ¬ (cap = i) := by omega
  clear hg hX hZ hV h1 h2 hv hold hG hGn hGm hU hT hUl hTl hW1 hW2 hi hz0 hz1 hz2
  go_enter Tryz.func26, Tryz.ntmps26
  go_wp2_with (at_builtin; refine Lib.wpList_append_run _ rfl _ _ _ _ rfl _ _ rfl rfl _ _ (hap _) ?_)
  go_region_law (refine step_copy_spliceK rfl (.tmp 50) (.tmp 53) 53 53 rfl 58 3 Tryz.underlying53 hsz w.heap.size ((i + 1) * 3) (i + k + 1 - (i + 1)) (G - (i + 1)) ⟨g, i * 3, none⟩ k (cap - i) (by simp [Act.eval, Act.put]) (by simp [Act.eval, Act.put]) (X ++ (V ++ (U ++ T).drop 3)) 58 HN2.out Z k (by rw [show i + k + 1 - (i + 1) = k by omega]; exact Nat.min_self k) HZ.out HZS.out HF2.out H1.out [] w (HC2.out.drew) (.inr (Nat.le_refl _)) ?_; intro w3 hg3 hc3)
  go_wp2_with fail
  go_ret
  refine ⟨⟨G, T, rfl, ?_, HT.out, HGn.out, HGm.out⟩, hc3.out⟩
  rw [← HS2.out]
  exact hg3.out
end Go.Proofs.YthkjmplcmfabfaaGreatDoor
