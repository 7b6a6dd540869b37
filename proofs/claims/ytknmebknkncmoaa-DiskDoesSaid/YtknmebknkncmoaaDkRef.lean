/- The document's disk in memory; contracts of its there, Read, Sync, New. -/
import Derived.Test.YtknmebknkncmoaaDkRefLay
namespace Go.Proofs.Ytknmebknkncmoaa
open Go.RowKit Go.Lib

/-- the document's disk: its struct in block rb, kept bytes under kv, pending pieces under pv -/
structure RefAt (w : World) (base rb : Nat) (kv pv : Value) (kept : Bs) (pend : List (Nat × Bs)) : Prop where
  hd : w.heap[rb]? = some (.cells #[kv, pv] 38 (0, 0))
  hk : w.ownsRow base 5 1 kv kept.length (byteCells kept)
  hp : w.ownsRow base 58 2 pv pend.length (pend.flatMap pieceCells)
  lo : 64 ≤ kept.length
  hi : kept.length ≤ 65536
  ok : ∀ p ∈ pend, p.1 + p.2.length ≤ kept.length
  b1 : base ≤ rb

theorem RefAt.keep {w w' : World} {base rb : Nat} {kv pv : Value} {kept : Bs} {pend : List (Nat × Bs)} (R : RefAt w base rb kv pv kept pend) {F : List Nat} (h : Chg F w w')
    (n1 : rb ∉ F) (n2 : ∀ g, kv.ownBlock = some g → g ∉ F) (n3 : ∀ g, pv.ownBlock = some g → g ∉ F) : RefAt w' base rb kv pv kept pend :=
  ⟨h.heap R.hd n1, h.owns R.hk n2, h.owns R.hp n3, R.lo, R.hi, R.ok, R.b1⟩
theorem RefAt.later {w w' : World} {base rb : Nat} {kv pv : Value} {kept : Bs} {pend : List (Nat × Bs)} (R : RefAt w base rb kv pv kept pend) (h : Below w.heap.size w w') : RefAt w' base rb kv pv kept pend :=
  R.keep (F := []) (Chg.of_below h) (by simp) (by simp) (by simp)

theorem piece_cells58 {w : World} {base n : Nat} {pa : Option Addr} {pc : Nat} {l : List (Nat × Bs)} (h : w.ownsRow base 58 2 (.slice pa n pc) n (l.flatMap pieceCells)) {q : Nat} {p : Nat × Bs} (hq : l[q]? = some p) (hn : q < n) :
    ∃ g, pa = some ⟨g, 0, none⟩ ∧ w.cell? ⟨g, q * 2, none⟩ = some (.int .i64 (p.1 : Int)) ∧ w.cell? ⟨g, q * 2 + 1, none⟩ = some (.string (bstr p.2)) := by
  rcases h.2 with ⟨hv, h0⟩ | ⟨g, cap, cur, hv, _⟩
  · omega
  · injection hv with h1 h2 h3
    subst h1 h3
    refine ⟨g, rfl, ?_, ?_⟩
    · rw [h.cellAt _ (by omega), flat_even, hq]; rfl
    · rw [h.cellAt _ (by omega), flat_odd, hq]; rfl

def ThereRel (w : World) (base : Nat) (kv : Value) (kept : Bs) (pend : List (Nat × Bs)) (l i : Value) (wr : World) : Prop :=
  ∃ j : Nat, i = .int .i64 (j : Int) ∧ j ≤ pend.length ∧ wr.ownsRow base 5 1 l kept.length (byteCells ((pend.take j).foldl lay kept)) ∧ Below w.heap.size w wr ∧
    ∀ g, l.ownBlock = some g → kv.ownBlock = some g ∨ w.heap.size ≤ g
def ThereEnd (w : World) (base : Nat) (kv : Value) (kept : Bs) (pend : List (Nat × Bs)) (e : Ending) (w' : World) : Prop :=
  ∃ v, e = .returned v ∧ w'.ownsRow base 5 1 v kept.length (byteCells (pend.foldl lay kept)) ∧ Below w.heap.size w w' ∧ ∀ g, v.ownBlock = some g → kv.ownBlock = some g ∨ w.heap.size ≤ g

set_option maxHeartbeats 1000000 in
theorem there_any {w : World} {base rb : Nat} {kv pv : Value} {kept : Bs} {pend : List (Nat × Bs)} (R : RefAt w base rb kv pv kept pend) :
    Calls Try.prog 31 #[.pointer (some ⟨rb, 0, none⟩)] w (ThereEnd w base kv kept pend) := by
  obtain ⟨pa, pc, hpv, hpm⟩ := ownsRow_view R.hp
  have hd := R.hd
  rw [hpv] at hd
  have c0 := cell_of (i := 0) hd rfl
  have hrb := heap_lt R.hd
  have hb1 := R.b1
  unfold maxLen at hpm
  have HR := hid R
  have HD := hid hd
  have HPV := hid hpv
  clear R hpv hd
  go_enter Try.func31, Try.ntmps31
  go_wp2_with fail
  go_loopw [3, 4] (fun l i wr => ThereRel w base kv kept pend l i wr) (fun _ i _ => pend.length - (intOf i).toNat)
  case atStart => exact ⟨0, rfl, by omega, by simpa using HR.out.hk, Below.refl _ w, fun g h => .inl h⟩
  case round =>
    obtain ⟨j, rfl, hj, hown, hbe, hob⟩ := hrel
    have c1 : wr.cell? ⟨rb, 1, none⟩ = some (.slice pa pend.length pc) := cell_of (i := 1) ((hbe.block rb hrb).trans HD.out) rfl
    have HO := hid hob
    have hsz := hbe.size
    clear hob c0
    by_cases hgo : j < pend.length
    · obtain ⟨p, hp⟩ : ∃ p, pend[j]? = some p := ⟨pend[j], by simp [hgo]⟩
      have hown0 := (HR.out.later hbe).hp
      rw [HPV.out] at hown0
      obtain ⟨g, rfl, q0, q1⟩ := piece_cells58 hown0 hp hgo
      have hok := HR.out.ok p (List.mem_of_getElem? hp)
      have hlo := HR.out.lo
      have hhi := HR.out.hi
      obtain ⟨K, hK⟩ : ∃ K, K = (pend.take j).foldl lay kept := ⟨_, rfl⟩
      have hKl : K.length = kept.length := by rw [hK]; exact lays_length (fun p hp => HR.out.ok p (List.mem_of_mem_take hp))
      rw [← hK, ← hKl] at hown
      rw [← hKl] at hok hlo hhi
      have HL := hid (lay_any wr _ K p (bytes_of_owns (by omega) hown) hok (by omega) hhi)
      have HK := hid hK
      have HKL := hid hKl
      have HP := hid hp
      clear hK hKl hp hown hown0 hok hlo hhi
      go_wp2_with fail
      refine HL.out.mono ?_
      rintro e w1 ⟨v, rfl, hv, hb1⟩
      have ST : ThereRel w base kv kept pend v (.int .i64 ((j : Int) + 1)) w1 := by
        have hpj : pend[j]? = some p := HP.out
        have ep : pend[j] = p := (List.getElem?_eq_some_iff.1 hpj).2
        refine ⟨j + 1, by simp, by omega, ?_, hbe.trans (hb1.mono hbe.size), fun g hg => .inr ?_⟩
        · rw [List.take_succ_eq_append_getElem hgo, List.foldl_append, ← HK.out, ep, ← HKL.out]
          exact ownsRow_lower hv (by omega)
        · have := (hv.lt g hg).1; omega
      have HST := hid ST
      clear hv hb1 ST c1 q0 q1
      go_wp2_with fail
      go_roundw
      case rel => exact HST.out
      case measure => simp [intOf]; omega
    · obtain rfl : j = pend.length := by omega
      rw [List.take_of_length_le (Nat.le_refl _)] at hown
      have HOW := hid hown
      clear hown
      go_wp2_with fail
      go_ret
      exact ⟨_, rfl, HOW.out, hbe, HO.out⟩

theorem conv_cells {w : World} {b off l c : Nat} {ys : Bs} (h : ∀ j x, ys[j]? = some x → w.cell? ⟨b, off + j, none⟩ = some (.int .u8 (x.toNat : Int))) (hl : ys.length = l) :
    (convert 35 9 (.slice (some ⟨b, off, none⟩) l c)).run Try.prog w = .ok (str ys) w := by
  rw [run_convert_bytes_string w 35 9 5 _ l c Try.underlying35 Try.underlying5 Try.underlying9]
  have hl' := run_loadCells_list (P := Try.prog) w ⟨b, off, none⟩ (ys.map fun x => Value.int .u8 (x.toNat : Int)) (fun j v hv => by
    have hadd : (⟨b, off, none⟩ : Addr).add j = ⟨b, off + j, none⟩ := by unfold Addr.add; split <;> simp_all
    rw [hadd]
    simp only [List.getElem?_map, Option.map_eq_some_iff] at hv
    obtain ⟨x, hx, rfl⟩ := hv
    exact h j x hx)
  rw [List.length_map, hl] at hl'
  have e : (ys.map fun x => Value.int .u8 (x.toNat : Int)) = ((ys.map fun x => (x.toNat : Int)).map (Value.int .u8)) := by rw [List.map_map]; rfl
  rw [e] at hl'
  rw [run_bytesToString w _ l c _ hl', foldl_push]
  rfl

set_option maxHeartbeats 1000000 in
theorem ref_read_ok {w : World} {base rb : Nat} {kv pv : Value} {kept : Bs} {pend : List (Nat × Bs)} (R : RefAt w base rb kv pv kept pend) (a n : Nat) (h : a + n ≤ kept.length) :
    Calls Try.prog 14 #[.pointer (some ⟨rb, 0, none⟩), .int .i64 (a : Int), .int .i64 (n : Int)] w fun e w' => e = .returned (.tuple #[str (((pend.foldl lay kept).drop a).take n), .int .i64 0]) ∧ Below w.heap.size w w' := by
  obtain ⟨ka, kc, hkv, _⟩ := ownsRow_view R.hk
  have hd := R.hd
  rw [hkv] at hd
  have c0 := cell_of (i := 0) hd rfl
  have HT := hid (there_any R)
  have hlo := R.lo
  have hhi := R.hi
  have hN : (pend.foldl lay kept).length = kept.length := lays_length R.ok
  obtain ⟨N, hNd⟩ : ∃ N, N = pend.foldl lay kept := ⟨_, rfl⟩
  unfold ThereEnd at HT
  rw [← hNd] at HT hN
  rw [← hNd]
  clear R hd hkv hNd
  go_enter Try.func14, Try.ntmps14
  go_wp2_with fail
  refine HT.out.mono ?_
  rintro e w1 ⟨v, rfl, hv, hb, _⟩
  rcases hv.2 with ⟨_, h0⟩ | ⟨g, cap, cur, rfl, _, _, hc1, hc2, _⟩
  · omega
  have hcell : ∀ j x, (((N.drop a).take n)[j]?) = some x → w1.cell? ⟨g, a + j, none⟩ = some (.int .u8 (x.toNat : Int)) := fun j x hx => by
    rw [List.getElem?_take] at hx
    split at hx
    · rw [List.getElem?_drop] at hx
      have hj : a + j < N.length := (List.getElem?_eq_some_iff.1 hx).1
      rw [hv.cellAt _ (by omega), byteCells_get, hx]; rfl
    · cases hx
  have hcv := fun c => conv_cells (c := c) hcell (show ((N.drop a).take n).length = n by simp; omega)
  have hcv0 : ∀ c, (convert 35 9 (.slice (some ⟨g, 0, none⟩) 0 c)).run Try.prog w1 = .ok (str []) w1 := fun c => conv_cells (by simp) rfl
  have g1 : (a : Int) ≤ (a : Int) + (n : Int) := by omega
  have g2 : (a : Int) + (n : Int) ≤ (cap : Int) := by omega
  unfold maxLen at hc2
  clear hcell hv HT c0
  by_cases ha : a = cap
  · obtain rfl : n = 0 := by omega
    subst ha
    go_wp2_with fail
    go_ret2
    exact ⟨by simp, hb⟩
  · have hne : ¬ cap = a := fun e => ha e.symm
    clear ha hcv0
    go_wp2_with fail
    go_ret2
    exact ⟨rfl, hb⟩

set_option maxHeartbeats 1000000 in
theorem ref_read_bad {w : World} {base rb : Nat} {kv pv : Value} {kept : Bs} {pend : List (Nat × Bs)} (R : RefAt w base rb kv pv kept pend) (a n : Int)
    (h1 : -9223372036854775808 ≤ a) (h2 : a ≤ 9223372036854775807) (h3 : -9223372036854775808 ≤ n) (h4 : n ≤ 9223372036854775807) (hb : wthB kept.length a n = false) :
    Calls Try.prog 14 #[.pointer (some ⟨rb, 0, none⟩), .int .i64 a, .int .i64 n] w fun e w' => e = .returned (.tuple #[str [], .int .i64 260]) ∧ w = w' := by
  obtain ⟨ka, kc, hkv, _⟩ := ownsRow_view R.hk
  have hd := R.hd
  rw [hkv] at hd
  have c0 := cell_of (i := 0) hd rfl
  have hhi := R.hi
  clear R hd hkv
  by_cases t1 : a < 0
  · clear hb
    go_enter Try.func14, Try.ntmps14
    go_wp2
    go_ret2
    exact ⟨rfl, rfl⟩
  · by_cases t2 : n < 0
    · clear hb
      go_enter Try.func14, Try.ntmps14
      go_wp2
      go_ret2
      exact ⟨rfl, rfl⟩
    · by_cases t3 : (kept.length : Int) < a
      · clear hb
        go_enter Try.func14, Try.ntmps14
        go_wp2
        go_ret2
        exact ⟨rfl, rfl⟩
      · have t4 : (kept.length : Int) - a < n := by
          simp only [wthB, Bool.and_eq_false_iff, decide_eq_false_iff_not] at hb
          omega
        clear hb
        go_enter Try.func14, Try.ntmps14
        go_wp2
        go_ret2
        exact ⟨rfl, rfl⟩

theorem ref_set0 {w : World} {base rb : Nat} {kv pv v : Value} {kept N : Bs} {pend : List (Nat × Bs)} (R : RefAt w base rb kv pv kept pend) (hv : w.ownsRow base 5 1 v kept.length (byteCells N)) (hN : N.length = kept.length) :
    (w.setCell ⟨rb, 0, none⟩ v).heap[rb]? = some (.cells #[v, pv] 38 (0, 0)) ∧
    RefAt ((w.setCell ⟨rb, 0, none⟩ v).setCell ⟨rb, 1, none⟩ (.slice none 0 0)) base rb v (.slice none 0 0) N [] ∧ Chg [rb] w ((w.setCell ⟨rb, 0, none⟩ v).setCell ⟨rb, 1, none⟩ (.slice none 0 0)) := by
  have h1 : (w.setCell ⟨rb, 0, none⟩ v).heap[rb]? = some (.cells #[v, pv] 38 (0, 0)) := heap_setCell_at R.hd v
  have ch : Chg [rb] w ((w.setCell ⟨rb, 0, none⟩ v).setCell ⟨rb, 1, none⟩ (.slice none 0 0)) := ((Chg.refl [rb] w).setCell (by simp) _).setCell (by simp) _
  refine ⟨h1, ⟨heap_setCell_at h1 _, ?_, World.ownsRow_nil _ _ _ _, by rw [hN]; exact R.lo, by rw [hN]; exact R.hi, by simp, R.b1⟩, ch⟩
  rw [hN]
  refine ch.owns hv (fun g hg => ?_)
  obtain ⟨cur, hc⟩ := owns_cells hv hg
  simpa using heap_ne hc R.hd (by decide)

def SyncEnd (w : World) (base rb : Nat) (kv : Value) (N : Bs) (e : Ending) (w' : World) : Prop :=
  e = .returned (.int .i64 0) ∧ ∃ kv', RefAt w' base rb kv' (.slice none 0 0) N [] ∧ Chg [rb] w w' ∧ ∀ g, kv'.ownBlock = some g → kv.ownBlock = some g ∨ w.heap.size ≤ g

set_option maxHeartbeats 1000000 in
theorem ref_sync {w : World} {base rb : Nat} {kv pv : Value} {kept : Bs} {pend : List (Nat × Bs)} (R : RefAt w base rb kv pv kept pend) :
    Calls Try.prog 28 #[.pointer (some ⟨rb, 0, none⟩)] w (SyncEnd w base rb kv (pend.foldl lay kept)) := by
  have HT := hid (there_any R)
  have HR := hid R
  clear R
  go_enter Try.func28, Try.ntmps28
  go_wp2_with fail
  refine HT.out.mono ?_
  rintro e w1 ⟨v, rfl, hv, hb, ho⟩
  obtain ⟨va, vc, rfl, _⟩ := ownsRow_view hv
  have R1 := HR.out.later hb
  obtain ⟨h1, hE, hC⟩ := ref_set0 R1 hv (lays_length R1.ok)
  have c0 := cell_of (i := 0) R1.hd rfl
  have f0 := free_of (i := 0) R1.hd
  have c1 := cell_of (i := 1) h1 rfl
  have f1 := free_of (i := 1) h1
  have HF := hid (show RefAt _ base rb (.slice va kept.length vc) (.slice none 0 0) (pend.foldl lay kept) [] ∧ Chg [rb] w _ from ⟨hE, (Chg.of_below hb).trans hC (by simp)⟩)
  have HO := hid ho
  clear R1 h1 hE hC hv hb HT HR ho
  go_wp2_with fail
  go_ret
  exact ⟨rfl, _, HF.out.1, HF.out.2, HO.out⟩

set_option maxHeartbeats 400000 in
theorem ref_new_bad (n : Int) (w : World) (h : n < 64 ∨ 65536 < n ∨ n % 64 ≠ 0) (h1 : -9223372036854775808 ≤ n) (h2 : n ≤ 9223372036854775807) :
    Calls Try.prog 19 #[.int .i64 n] w fun e w' => e = .returned (.tuple #[.pointer none, .int .i64 2]) ∧ w = w' := by
  by_cases ha : n < 64
  · clear h
    go_enter Try.func19, Try.ntmps19
    go_wp2
    go_ret2
    exact ⟨rfl, rfl⟩
  · by_cases hb : 65536 < n
    · clear h
      go_enter Try.func19, Try.ntmps19
      go_wp2
      go_ret2
      exact ⟨rfl, rfl⟩
    · have hc : (n % 64 != 0) = true := by
        rw [bne_iff_ne]; omega
      have h0 : 0 ≤ n := by omega
      clear h
      go_enter Try.func19, Try.ntmps19
      go_wp2
      go_ret2
      exact ⟨rfl, rfl⟩

set_option maxHeartbeats 400000 in
theorem ref_new_ok (n : Nat) (w : World) (h1 : 64 ≤ n) (h2 : n ≤ 65536) (h3 : n % 64 = 0) :
    Calls Try.prog 19 #[.int .i64 n] w fun e w' => ∃ rb kv, e = .returned (.tuple #[.pointer (some ⟨rb, 0, none⟩), .int .i64 0]) ∧ RefAt w' w.heap.size rb kv (.slice none 0 0) (zeros n) [] ∧ Chg [] w w' := by
  have hmk := make_bytes n (by omega)
  have hc : ((n : Int) % 64 != 0) = false := by
    rw [bne_eq_false_iff_eq]; omega
  clear h3
  have hz := zeros_length n
  have HF := hid (show RefAt ((w.alloc (.cells (byteCells (zeros n)).toArray 5)).alloc (.cells #[.slice (some ⟨w.heap.size, 0, none⟩) n n, .slice none 0 0] 38)) w.heap.size (w.heap.size + 1) (.slice (some ⟨w.heap.size, 0, none⟩) n n) (.slice none 0 0) (zeros n) [] from by
    have e0 := heap_alloc_keep (heap_alloc_new w (.cells (byteCells (zeros n)).toArray 5)) (.cells #[.slice (some ⟨w.heap.size, 0, none⟩) n n, .slice none 0 0] 38)
    have e1 := heap_alloc_new (w.alloc (.cells (byteCells (zeros n)).toArray 5)) (.cells #[.slice (some ⟨w.heap.size, 0, none⟩) n n, .slice none 0 0] 38)
    simp only [World.size_alloc] at e1
    refine ⟨e1, ⟨by simp [byteCells_length], .inr ⟨w.heap.size, n, _, by rw [hz], Nat.le_refl _, e0, by omega, by unfold maxLen; omega, by simp [byteCells_length, hz], List.take_of_length_le (by simp [byteCells_length, hz])⟩⟩, World.ownsRow_nil _ _ _ _, by omega, by omega, by simp, by omega⟩)
  clear hz
  go_enter Try.func19, Try.ntmps19
  go_wp2
  go_ret2
  exact ⟨_, _, rfl, HF.out, ((Chg.refl _ w).alloc _).alloc _⟩

end Go.Proofs.Ytknmebknkncmoaa
