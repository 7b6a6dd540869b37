/- Contract of the law's own of: the place of each node's island. -/
import Derived.Test.YtagfgbmaibadjaaIsPos
import Derived.Test.YtagfgbmaibadjaaIsBuild
namespace Go.Proofs.Ytagfgbmaibadjaa
open Go.RowKit Go.Lib

def PosFill (w : World) (n : Nat) (iv : Value) (wr : World) : Prop :=
  ∃ i : Nat, iv = .int .i64 (i : Int) ∧ i ≤ n ∧ RowF wr w.heap.size n (fun j => if j < i then -1 else 0) ∧ Below w.heap.size w wr
def PosRel (w : World) (out : List (List Nat)) (n : Nat) (iv : Value) (wr : World) : Prop :=
  ∃ i : Nat, iv = .int .i64 (i : Int) ∧ i ≤ out.length ∧ RowF wr w.heap.size n (ofPre out i) ∧ Below w.heap.size w wr
def PosIn (w : World) (out : List (List Nat)) (n i : Nat) (l : List Nat) (kv : Value) (wr : World) : Prop :=
  ∃ k : Nat, kv = .int .i64 (k : Int) ∧ k ≤ l.length ∧ RowF wr w.heap.size n (ofRow i (l.take k) (ofPre out i)) ∧ Below w.heap.size w wr
def PosEnd (w : World) (out : List (List Nat)) (n : Nat) (e : Ending) (w' : World) : Prop :=
  e = .returned (.slice (some ⟨w.heap.size, 0, none⟩) n n) ∧ RowF w' w.heap.size n (posOf out) ∧ Below w.heap.size w w'

theorem castG_row {out : List (List Nat)} {i : Nat} {l : List Nat} (h : out[i]? = some l) : (castG out)[i]? = some (l.map fun (x : Nat) => (x : Int)) := by
  unfold castG
  rw [List.getElem?_map, h]
  rfl
theorem fill_upd {i : Nat} : upd (fun j => if j < i then (-1 : Int) else 0) i (-1) = fun j => if j < i + 1 then (-1 : Int) else 0 := by
  funext j
  unfold upd
  by_cases h : j = i
  · subst h; simp
  · rw [if_neg h]
    show (if j < i then (-1 : Int) else 0) = if j < i + 1 then (-1 : Int) else 0
    by_cases h2 : j < i
    · rw [if_pos h2, if_pos (by omega)]
    · rw [if_neg h2, if_neg (by omega)]

set_option maxRecDepth 20000 in
set_option maxHeartbeats 2000000 in
theorem pos_any {w : World} {v : Value} {out : List (List Nat)} {n : Nat} (h : RowsIn w v (castG out)) (hn : n ≤ 2000) (hx : ∀ l ∈ out, ∀ x ∈ l, x < n) : Calls Try.prog 19 #[v, .int .i64 (n : Int)] w (PosEnd w out n) := by
  obtain ⟨ao, c, rfl, hol⟩ := rows_view h
  rw [castG_length] at h hol ⊢
  obtain ⟨on, hon⟩ : ∃ on, on = out.length := ⟨_, rfl⟩
  rw [← hon] at h hol ⊢
  have HON := hid hon
  have H := hid h
  have HX := hid hx
  have hmk := make_ints n (by omega)
  have f0 : RowF (w.alloc (.cells (List.replicate n (Value.int .i64 0)).toArray 3)) w.heap.size n (fun j => if j < 0 then -1 else 0) := by
    have e := heap_alloc_new w (.cells (List.replicate n (Value.int .i64 0)).toArray 3)
    unfold RowF
    rw [e]
    have : (fun j => Value.int .i64 (if j < 0 then -1 else 0)) = fun _ => Value.int .i64 0 := by funext j; rfl
    rw [this, List.map_const']; simp
  have F0 := hid (show PosFill w n (.int .i64 0) (w.alloc (.cells (List.replicate n (Value.int .i64 0)).toArray 3)) from ⟨0, rfl, by omega, f0, (Below.refl _ w).alloc (Nat.le_refl _) _⟩)
  simp only [List.toArray_replicate] at F0
  clear h hon hx f0
  go_enter Try.func19, Try.ntmps19
  go_wp2_with fail
  clear hmk
  go_loopw [6] (fun iv y => PosFill w n iv y) (fun iv _ => n - (intOf iv).toNat)
  case atStart => exact F0.out
  case round =>
    clear F0
    obtain ⟨i, rfl, hi, hr, hb⟩ := hrel
    by_cases hgo : i < n
    · have q1 := hr.get hgo
      have q2 := hr.free (i := i)
      have RR := hid (show PosFill w n (.int .i64 ((i : Int) + 1)) (wr.setCell ⟨w.heap.size, i, none⟩ (.int .i64 (-1))) from ⟨i + 1, by simp, by omega, by
        have := hr.set (k := i) (-1)
        rw [fill_upd] at this
        exact this, hb.setCell (Nat.le_refl _) _⟩)
      clear hr hb
      go_wp2_with fail
      go_roundw
      case rel => exact RR.out
      case measure => simp [intOf]; omega
    · obtain rfl : i = n := by omega
      have P0 := hid (show PosRel w out i (.int .i64 0) wr from ⟨0, rfl, Nat.zero_le _, by
        have e : wr.heap[w.heap.size]? = some (.cells ((List.range i).map fun j => Value.int .i64 (if j < i then -1 else 0)).toArray 3 (0, 0)) := hr
        unfold RowF
        rw [e]
        congr 3
        refine List.map_congr_left (fun j hj => ?_)
        simp only [List.mem_range] at hj
        rw [if_pos hj]
        rfl, hb⟩)
      clear hr hb
      go_wp2_with fail
      go_loopw [7] (fun iv y => PosRel w out i iv y) (fun iv _ => on - (intOf iv).toNat)
      case atStart => exact P0.out
      case round =>
        clear P0
        obtain ⟨p, rfl, hp, hr, hb⟩ := hrel
        rw [← HON.out] at hp
        by_cases hpo : p < on
        · obtain ⟨l, hl⟩ : ∃ l, out[p]? = some l := ⟨_, List.getElem?_eq_getElem (HON.out ▸ hpo)⟩
          obtain ⟨b1, o1, lo, lc, rfl, hcl, hil⟩ := rows_cell H.out (castG_row hl)
          rw [List.length_map] at hcl hil
          obtain ⟨ln, hln⟩ : ∃ ln, ln = l.length := ⟨_, rfl⟩
          rw [← hln] at hcl hil
          have hln2 := (ints_len hil).1
          have HLN := hid hln
          have HCL := hid hcl
          have HIL := hid hil
          have HL := hid hl
          have RI := hid (show PosIn w out i p l (.int .i64 0) wr from ⟨0, rfl, Nat.zero_le _, by simpa [ofRow] using hr, hb⟩)
          clear hr hb hln hcl hil hl
          go_wp2_with fail
          go_loopw [8] (fun kv y => PosIn w out i p l kv y) (fun kv _ => ln - (intOf kv).toNat)
          case atStart => exact RI.out
          case round =>
            clear RI
            obtain ⟨k, rfl, hk, hr, hb⟩ := hrel
            rw [← HLN.out] at hk
            have c1 := (hb.cell (World.block_lt_of_cell? _ _ HCL.out)).trans HCL.out
            by_cases hkn : k < ln
            · obtain ⟨x, hx⟩ : ∃ x, l[k]? = some x := ⟨_, List.getElem?_eq_getElem (HLN.out ▸ hkn)⟩
              obtain ⟨b2, o2, rfl, c2w, x1, x2⟩ := ints_cell HIL.out (i := k) (x := (x : Int)) (by rw [List.getElem?_map, hx]; rfl)
              have c2 := (hb.cell (World.block_lt_of_cell? _ _ c2w)).trans c2w
              have hxn : x < i := HX.out l (List.mem_of_getElem? HL.out) x (List.mem_of_getElem? hx)
              have q1 := hr.get hxn
              have q2 := hr.free (i := x)
              have RR := hid (show PosIn w out i p l (.int .i64 ((k : Int) + 1)) (wr.setCell ⟨w.heap.size, x, none⟩ (.int .i64 (p : Int))) from ⟨k + 1, by simp, by have := HLN.out; omega, by
                rw [ofRow_step hx]
                exact hr.set (k := x) (p : Int), hb.setCell (Nat.le_refl _) _⟩)
              clear hr hb hx c2w
              go_wp2_with fail
              go_roundw
              case rel => exact RR.out
              case measure => simp [intOf]; omega
            · have RR := hid (show PosRel w out i (.int .i64 ((p : Int) + 1)) wr from ⟨p + 1, by simp, by have := HON.out; omega, by
                rw [List.take_of_length_le (by have := HLN.out; omega)] at hr
                show RowF wr w.heap.size i (ofRow p ((out[p]?).getD []) (ofPre out p))
                rw [HL.out, Option.getD_some]
                exact hr, hb⟩)
              clear hr hb
              go_wp2_with fail
              go_roundw
              case rel => exact RR.out
              case measure => simp [intOf]; omega
        · obtain rfl : p = on := by omega
          have RR := hid (show RowF wr w.heap.size i (posOf out) from by
            unfold posOf
            rw [← HON.out]
            exact hr)
          have HB := hid hb
          clear hr hb
          go_wp2_with fail
          go_ret
          exact ⟨rfl, RR.out, HB.out⟩

end Go.Proofs.Ytagfgbmaibadjaa
