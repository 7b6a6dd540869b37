/- Contract of the document's lay: a piece laid over a copy of the bytes. -/
import Derived.Test.YtknmebknkncmoaaDkParts
import Derived.Test.YtknmebknkncmoaaDkSyncedP
namespace Go.Proofs.Ytknmebknkncmoaa
open Go.RowKit Go.Lib

/-- bytes in memory -/
def BytesAt (w : World) (v : Value) (l : Bs) : Prop :=
  ∃ g off c, v = .slice (some ⟨g, off, none⟩) l.length c ∧ ∀ j x, l[j]? = some x → w.cell? ⟨g, off + j, none⟩ = some (.int .u8 (x.toNat : Int))
theorem BytesAt.below {w w' : World} {v : Value} {l : Bs} (h : BytesAt w v l) (hb : Below w.heap.size w w') : BytesAt w' v l := by
  obtain ⟨g, off, c, e, hc⟩ := h
  exact ⟨g, off, c, e, fun j x hx => (hb.cell (World.block_lt_of_cell? _ _ (hc j x hx))).trans (hc j x hx)⟩
theorem lay_set {l s : Bs} {a j : Nat} {c : UInt8} (hf : a + s.length ≤ l.length) (hc : s[j]? = some c) : lay l (a, s.take (j + 1)) = (lay l (a, s.take j)).set (a + j) c := by
  obtain ⟨hj, _⟩ := List.getElem?_eq_some_iff.1 hc
  have l1 : (s.take (j + 1)).length = j + 1 := by simp; omega
  have l0 : (s.take j).length = j := by simp; omega
  have e0 : (lay l (a, s.take j)).length = l.length := lay_length (by show a + (s.take j).length ≤ l.length; omega)
  unfold lay at e0 ⊢
  apply List.ext_getElem?
  intro i
  rw [splice_get (by show a + (s.take (j + 1)).length ≤ _; omega), List.getElem?_set, e0, splice_get (by show a + (s.take j).length ≤ _; omega)]
  show (if a ≤ i ∧ i < a + (s.take (j + 1)).length then (s.take (j + 1))[i - a]? else l[i]?) = if a + j = i then (if a + j < l.length then some c else none) else if a ≤ i ∧ i < a + (s.take j).length then (s.take j)[i - a]? else l[i]?
  rw [l1, l0]
  by_cases h1 : a + j = i
  · subst h1
    rw [if_pos (by omega), if_pos rfl, if_pos (by omega), List.getElem?_take, if_pos (by omega), show a + j - a = j by omega, hc]
  · rw [if_neg h1]
    by_cases h2 : a ≤ i ∧ i < a + j
    · rw [if_pos (by omega), if_pos h2, List.getElem?_take, List.getElem?_take, if_pos (by omega), if_pos (by omega)]
    · rw [if_neg (by omega), if_neg h2]
theorem lay_none (l : Bs) (a : Nat) : lay l (a, []) = l := by simp [lay, splice]
theorem byteCells_get {l : Bs} {j : Nat} : (byteCells l)[j]? = l[j]?.map (fun x => Value.int .u8 (x.toNat : Int)) := by simp [byteCells]
theorem bytes_of_owns {w : World} {base : Nat} {v : Value} {l : Bs} (hl : 0 < l.length) (h : w.ownsRow base 5 1 v l.length (byteCells l)) : BytesAt w v l := by
  rcases h.2 with ⟨_, h0⟩ | ⟨g, cap, cur, rfl, _⟩
  · omega
  · refine ⟨g, 0, cap, rfl, fun j x hx => ?_⟩
    have hj : j < l.length := (List.getElem?_eq_some_iff.1 hx).1
    rw [Nat.zero_add, h.cellAt j (by omega)]
    simp [byteCells, hx]

def LayRel (w : World) (g cap : Nat) (l : Bs) (p : Nat × Bs) (i : Value) (wr : World) : Prop :=
  ∃ (j : Nat) (cur : Array Value), i = .int .i64 (j : Int) ∧ j ≤ p.2.length ∧ wr.heap[g]? = some (.cells cur 5 (0, 0)) ∧ cur.size = cap ∧ cur.toList.take l.length = byteCells (lay l (p.1, p.2.take j)) ∧ Below w.heap.size w wr ∧
    wr.cell? ⟨w.heap.size, 0, none⟩ = some (.int .i64 (p.1 : Int)) ∧ wr.cell? ⟨w.heap.size, 1, none⟩ = some (.string (bstr p.2))

def LayPost (w : World) (l : Bs) (p : Nat × Bs) (e : Ending) (w' : World) : Prop :=
  ∃ v, e = .returned v ∧ w'.ownsRow w.heap.size 5 1 v l.length (byteCells (lay l p)) ∧ Below w.heap.size w w'

theorem index_bstr {M : Bs} {j : Nat} {c : UInt8} (h : M[j]? = some c) (x : World) : (Instr.index 9 (.string (bstr M)) (.int .i64 (j : Int))).run Try.prog x = .ok (.int .u8 (c.toNat : Int)) x := by
  obtain ⟨hj, he⟩ := List.getElem?_eq_some_iff.1 h
  rw [run_index_string x 9 _ _ _ Try.underlying9, dif_pos ⟨by omega, by rw [bstr_size]; omega⟩]
  subst he
  rfl

theorem lay_step {w wr : World} {g cap : Nat} {l : Bs} {p : Nat × Bs} {j k : Nat} {c : UInt8} {cur : Array Value} (hf : p.1 + p.2.length ≤ l.length) (hc : p.2[j]? = some c) (hg : w.heap.size + 1 ≤ g) (hk : k = p.1 + j)
    (hh : wr.heap[g]? = some (.cells cur 5 (0, 0))) (hs : cur.size = cap) (ht : cur.toList.take l.length = byteCells (lay l (p.1, p.2.take j))) (hb : Below w.heap.size w wr)
    (b0 : wr.cell? ⟨w.heap.size, 0, none⟩ = some (.int .i64 (p.1 : Int))) (b1 : wr.cell? ⟨w.heap.size, 1, none⟩ = some (.string (bstr p.2))) (n : Nat) :
    LayRel w g cap l p (.int .i64 ((j : Int) + 1)) ((wr.drewN n).setCell ⟨g, k, none⟩ (.int .u8 (c.toNat : Int))) := by
  subst hk
  obtain ⟨hj, _⟩ := List.getElem?_eq_some_iff.1 hc
  have hb' : Below w.heap.size w (wr.drewN n) := below_drewN hb hb.size n
  refine ⟨j + 1, cur.setIfInBounds (p.1 + j) (.int .u8 (c.toNat : Int)), by simp, by omega, heap_setCell_at (w := wr.drewN n) hh _, by simp [hs], ?_, hb'.setCell (by simp; omega) _, ?_, ?_⟩
  · rw [lay_set hf hc, Array.toList_setIfInBounds, List.take_set, ht]
    simp [byteCells, List.map_set]
  · exact cell_setCell_far (w := wr.drewN n) b0 (by simp; omega) _
  · exact cell_setCell_far (w := wr.drewN n) b1 (by simp; omega) _

set_option maxHeartbeats 2000000 in
theorem lay_any (w : World) (lv : Value) (l : Bs) (p : Nat × Bs) (h : BytesAt w lv l) (hf : p.1 + p.2.length ≤ l.length) (hl0 : 0 < l.length) (hl : l.length ≤ 65536) :
    Calls Try.prog 33 #[lv, .agg #[.int .i64 (p.1 : Int), .string (bstr p.2)]] w (LayPost w l p) := by
  obtain ⟨i0, hi, hz0, hz1, hz2⟩ := info_parts Try.info5
  obtain ⟨g, off, c, rfl, hc⟩ := h
  have HC := hid hc
  clear hc
  go_enter Try.func33, Try.ntmps33
  have HO : Hid (((w.alloc (.cells #[.int .i64 (p.1 : Int), .string (bstr p.2)] 58)).alloc (.cells #[] 5)).ownsRow (w.heap.size + 1) 5 1 (.slice (some ⟨w.heap.size + 1, 0, none⟩) 0 0) 0 []) := hid (by
    have h := World.ownsRow_made (e := 5) (base := w.heap.size + 1) (size := 1) (w.alloc (.cells #[.int .i64 (p.1 : Int), .string (bstr p.2)] 58)) #[] 0 (by simp) (by simp [maxLen]) rfl
    rw [World.size_alloc] at h
    exact h)
  have HS : Hid (∀ j u, (byteCells l)[j]? = some u → ((w.alloc (.cells #[.int .i64 (p.1 : Int), .string (bstr p.2)] 58)).alloc (.cells #[] 5)).cell? ((⟨g, off, none⟩ : Addr).add j) = some u) := hid (by
    intro j u hu
    rw [byteCells_get] at hu
    simp only [Option.map_eq_some_iff] at hu
    obtain ⟨x, hx, rfl⟩ := hu
    have h1 := HC.out j x hx
    have hadd : (⟨g, off, none⟩ : Addr).add j = ⟨g, off + j, none⟩ := by
      unfold Addr.add; split
      · next h => subst h; rfl
      · rfl
    rw [hadd]
    exact (((Below.refl _ w).alloc (Nat.le_refl _) _).alloc (by simp) _).cell (World.block_lt_of_cell? _ _ h1) |>.trans h1)
  go_wp2_with (at_builtin; refine wpList_append_own _ rfl _ _ 35 rfl (w.heap.size + 1) 5 i0 (.int .u8 0) 1 1 Try.underlying35 hi hz0 hz1 hz2 rfl (by decide) _ _ _ rfl HO.out ⟨g, off, none⟩ l.length c (byteCells l) rfl (by simp [byteCells]) HS.out ?n1 ?n2 ?n3 ?n4 ?_)
  case n1 => intro u hu; simp only [byteCells, List.mem_map] at hu; obtain ⟨x, _, rfl⟩ := hu; rfl
  case n2 => unfold maxLen; omega
  case n3 => omega
  case n4 => simp
  intro v' w1 hown' hgrow _
  have hbe : Below w.heap.size w w1 := (((Below.refl _ w).alloc (Nat.le_refl _) _).alloc (by simp) _).grown hgrow (by simp; omega) (fun k e => by simp [Value.ownBlock] at e; omega)
  have q0 : w1.cell? ⟨w.heap.size, 0, none⟩ = some (.int .i64 (p.1 : Int)) := hgrow.cell (cell_of (heap_alloc_keep (heap_alloc_new w _) _) rfl) (by simp [Value.ownBlock])
  have q1 : w1.cell? ⟨w.heap.size, 1, none⟩ = some (.string (bstr p.2)) := hgrow.cell (cell_of (heap_alloc_keep (heap_alloc_new w _) _) rfl) (by simp [Value.ownBlock])
  rcases hown'.2 with ⟨_, h0⟩ | ⟨g2, cap, cur0, rfl, hg2, hh, hcl, hcm, hcs, htk⟩
  · omega
  rw [Nat.mul_one] at hcs htk
  have HG := hid hgrow
  have HR := hid hown'
  have HT := hid htk
  unfold maxLen at hcm
  clear hgrow hown' htk hi hz0 hz1 hz2 HC HO HS
  go_wp2_with fail
  go_loopw [6] (fun i wr => LayRel w g2 cap l p i wr) (fun i _ => p.2.length - (intOf i).toNat)
  case atStart => exact ⟨0, cur0, rfl, by omega, hh, hcs, by rw [List.take_zero, lay_none]; exact HT.out, hbe, q0, q1⟩
  case round =>
    clear hh hcs hbe q0 q1 HT HR HG
    obtain ⟨j, cur, rfl, hj, hh, hcs, htk, hbe, q0, q1⟩ := hrel
    have hsz := bstr_size p.2
    by_cases hgo : j < p.2.length
    · obtain ⟨x, hx⟩ : ∃ x, p.2[j]? = some x := ⟨p.2[j], by simp [hgo]⟩
      have hix := index_bstr hx
      obtain ⟨k, hk⟩ : ∃ k, k = p.1 + j := ⟨_, rfl⟩
      have hcell : ∃ u, wr.cell? ⟨g2, k, none⟩ = some u := ⟨cur[k]'(by omega), cell_of hh (by simp)⟩
      obtain ⟨u, hu⟩ := hcell
      have hfr := free_of (i := k) hh
      have ST := hid (fun n => lay_step (k := k) hf hx hg2 hk hh hcs htk hbe q0 q1 n)
      have hkI : (p.1 : Int) + (j : Int) = (k : Int) := by omega
      have hk1 : k < l.length := by omega
      have hk2 : k < cap := by omega
      clear htk hx hh hcs hk hbe hsz
      go_wp2_with fail
      go_region
      all_goals go_wp2_with fail
      all_goals go_roundw
      case rel => exact ST.out _
      case measure => simp [intOf]; omega
    · obtain rfl : j = p.2.length := by omega
      have H := hid (show wr.ownsRow w.heap.size 5 1 (.slice (some ⟨g2, 0, none⟩) l.length cap) l.length (byteCells (lay l p)) from ⟨by simp [byteCells_length, lay_length hf], .inr ⟨g2, cap, cur, rfl, by omega, hh, hcl, by unfold maxLen; omega, by omega, by rw [Nat.mul_one, htk, List.take_of_length_le (Nat.le_refl _)]⟩⟩)
      clear htk hh hcs
      go_wp2_with fail
      go_ret
      exact ⟨_, rfl, H.out, hbe⟩

end Go.Proofs.Ytknmebknkncmoaa
