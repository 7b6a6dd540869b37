/- Graphs and rows of ints in memory; contracts of the tests whether a graph is right. No condition. -/
import Derived.Test.YtagfgbmaibadjaaRows
import Derived.Test.YtagfgbmaibadjaaDkBase
import Derived.Test.YtagfgbmaibadjaaIsPlain2
import Derived.BigQuiet
import Derived.BigRegion
import Derived.Deep.QuietTactic
import Derived.RegionTactic
import Derived.ChangeAlike
import Derived.Laws.EntriesVeiled
namespace Go.Proofs.Ytagfgbmaibadjaa
open Go.RowKit Go.Lib

/-- a slice of ints in memory -/
def IntsIn (w : World) (v : Value) (xs : List Int) : Prop :=
  ∃ ao c b off, v = .slice ao xs.length c ∧ xs.length ≤ 9223372036854775807 ∧ ∀ j x, xs[j]? = some x → ao = some ⟨b, off, none⟩ ∧ w.cell? ⟨b, off + j, none⟩ = some (.int .i64 x) ∧ -9223372036854775808 ≤ x ∧ x ≤ 9223372036854775807
/-- a slice of slices of ints in memory -/
def RowsIn (w : World) (v : Value) (G : List (List Int)) : Prop :=
  ∃ ao c b off, v = .slice ao G.length c ∧ G.length ≤ 9223372036854775807 ∧ ∀ i l, G[i]? = some l → ao = some ⟨b, off, none⟩ ∧ ∃ lv, w.cell? ⟨b, off + i, none⟩ = some lv ∧ IntsIn w lv l
theorem IntsIn.below {w w' : World} {v : Value} {xs : List Int} (h : IntsIn w v xs) (hb : Below w.heap.size w w') : IntsIn w' v xs := by
  obtain ⟨ao, c, b, off, h1, h2, h3⟩ := h
  exact ⟨ao, c, b, off, h1, h2, fun j x hx => ⟨(h3 j x hx).1, (hb.cell (World.block_lt_of_cell? _ _ (h3 j x hx).2.1)).trans (h3 j x hx).2.1, (h3 j x hx).2.2⟩⟩
theorem RowsIn.below {w w' : World} {v : Value} {G : List (List Int)} (h : RowsIn w v G) (hb : Below w.heap.size w w') : RowsIn w' v G := by
  obtain ⟨ao, c, b, off, h1, h2, h3⟩ := h
  refine ⟨ao, c, b, off, h1, h2, fun i l hl => ⟨(h3 i l hl).1, ?_⟩⟩
  obtain ⟨lv, h4, h5⟩ := (h3 i l hl).2
  exact ⟨lv, (hb.cell (World.block_lt_of_cell? _ _ h4)).trans h4, h5.below hb⟩

def badX (n : Nat) (x : Int) : Bool := decide (x < 0) || decide ((n : Int) ≤ x)
def badRow (n : Nat) (l : List Int) : Bool := l.any (badX n)
def badGraph (n : Nat) (G : List (List Int)) : Bool := G.any (badRow n)

set_option maxHeartbeats 400000 in
theorem bad_any (w : World) (eb : Nat) (ao : Option Addr) (n c : Nat) (x : Int) (he : w.cell? ⟨eb, 0, none⟩ = some (.slice ao n c)) (_hn : n ≤ 9223372036854775807) (h1 : -9223372036854775808 ≤ x) (h2 : x ≤ 9223372036854775807) :
    Calls Try.prog 32 #[.int .i64 x, .pointer (some ⟨eb, 0, none⟩)] w fun e w' => e = .returned (.bool (badX n x)) ∧ w = w' := by
  go_enter Try.func32, Try.ntmps32
  go_wp2
  all_goals go_ret
  all_goals exact ⟨ret_bool (by simp [badX]; try omega), rfl⟩

theorem any_take {α : Type} {p : α → Bool} {l : List α} {j : Nat} {x : α} (hx : l[j]? = some x) (h : (l.take j).any p = false) (hp : p x = false) : (l.take (j + 1)).any p = false := by
  obtain ⟨hj, e⟩ := List.getElem?_eq_some_iff.1 hx
  rw [List.take_succ_eq_append_getElem hj, List.any_append, h, e]
  simp [hp]
theorem any_here {α : Type} {p : α → Bool} {l : List α} {j : Nat} {x : α} (hx : l[j]? = some x) (hp : p x = true) : l.any p = true := by
  rw [List.any_eq_true]
  exact ⟨x, List.mem_of_getElem? hx, hp⟩

def FindRel (w : World) (bad : Nat → Bool) (n : Nat) (i : Value) (wr : World) : Prop :=
  ∃ j : Nat, i = .int .i64 (j : Int) ∧ j ≤ n ∧ bad j = false ∧ wr = w
def FindEnd (w : World) (b : Bool) (e : Ending) (w' : World) : Prop :=
  ∃ r : Int, e = .returned (.int .i64 r) ∧ (b = decide (0 ≤ r)) ∧ -1 ≤ r ∧ r ≤ 9223372036854775807 ∧ w = w'

set_option maxHeartbeats 1000000 in
theorem index_bad (w : World) (eb : Nat) (ao : Option Addr) (n c : Nat) (he : w.cell? ⟨eb, 0, none⟩ = some (.slice ao n c)) (hn : n ≤ 9223372036854775807) (lv : Value) (l : List Int) (h : IntsIn w lv l) :
    Calls Try.prog 42 #[lv, .func (.func 32) #[] #[.pointer (some ⟨eb, 0, none⟩)]] w (FindEnd w (badRow n l)) := by
  obtain ⟨lo, lc, b, off, rfl, hl, hc⟩ := h
  have HC := hid hc
  clear hc
  go_enter Try.func42, Try.ntmps42
  go_wp2_with fail
  go_loopw [8] (fun i wr => FindRel w (fun j => (l.take j).any (badX n)) l.length i wr) (fun i _ => l.length - (intOf i).toNat)
  case atStart => exact ⟨0, rfl, by omega, by simp, rfl⟩
  case round =>
    obtain ⟨j, rfl, hj, hbad, rfl⟩ := hrel
    have HB := hid hbad
    clear hbad
    by_cases hgo : j < l.length
    · obtain ⟨x, hx⟩ : ∃ x, l[j]? = some x := ⟨l[j], by simp [hgo]⟩
      obtain ⟨rfl, hcx, x1, x2⟩ := HC.out j x hx
      have HX := hid hx
      have HBA := hid (bad_any wr eb ao n c x he hn x1 x2)
      obtain ⟨bb, hbb⟩ : ∃ bb, bb = badX n x := ⟨_, rfl⟩
      rw [← hbb] at HBA
      clear hx
      cases bb with
      | true =>
        have HE := hid (any_here HX.out hbb.symm)
        clear hbb
        go_wp2_with fail
        refine HBA.out.mono ?_
        rintro e w' ⟨rfl, rfl⟩
        go_wp2_with fail
        go_ret
        exact ⟨_, rfl, by rw [badRow, HE.out]; simp, by omega, by omega, rfl⟩
      | false =>
        have HE := hid (any_take HX.out HB.out hbb.symm)
        clear hbb
        go_wp2_with fail
        refine HBA.out.mono ?_
        rintro e w' ⟨rfl, rfl⟩
        go_wp2_with fail
        go_roundw
        case rel => exact ⟨j + 1, by simp, by omega, HE.out, rfl⟩
        case measure => simp [intOf]; omega
    · obtain rfl : j = l.length := by omega
      go_wp2_with fail
      go_ret
      refine ⟨_, rfl, ?_, by omega, by omega, rfl⟩
      have := HB.out
      rw [List.take_length] at this
      rw [badRow, this]
      rfl

set_option maxHeartbeats 400000 in
theorem contains_bad (w : World) (eb : Nat) (ao : Option Addr) (n c : Nat) (he : w.cell? ⟨eb, 0, none⟩ = some (.slice ao n c)) (hn : n ≤ 9223372036854775807) (lv : Value) (l : List Int) (h : IntsIn w lv l) :
    Calls Try.prog 35 #[lv, .func (.func 32) #[] #[.pointer (some ⟨eb, 0, none⟩)]] w fun e w' => e = .returned (.bool (badRow n l)) ∧ w = w' := by
  have H := hid (index_bad w eb ao n c he hn lv l h)
  clear he h
  go_enter Try.func35, Try.ntmps35
  go_wp2_with fail
  refine H.out.mono ?_
  rintro e w' ⟨r, rfl, hr, r1, r2, rfl⟩
  have HR := hid hr
  clear hr
  go_wp2_with fail
  go_ret
  exact ⟨ret_bool (by rw [HR.out]), rfl⟩

set_option maxHeartbeats 400000 in
theorem lit2_any (w : World) (eb bb : Nat) (ao : Option Addr) (n c : Nat) (he : w.cell? ⟨eb, 0, none⟩ = some (.slice ao n c)) (hn : n ≤ 9223372036854775807) (hb : w.cell? ⟨bb, 0, none⟩ = some (.func (.func 32) #[] #[.pointer (some ⟨eb, 0, none⟩)])) (lv : Value) (l : List Int) (h : IntsIn w lv l) :
    Calls Try.prog 34 #[lv, .pointer (some ⟨bb, 0, none⟩)] w fun e w' => e = .returned (.bool (badRow n l)) ∧ w = w' := by
  have H := hid (contains_bad w eb ao n c he hn lv l h)
  clear he h
  go_enter Try.func34, Try.ntmps34
  go_wp2_with fail
  refine H.out.mono ?_
  rintro e w' ⟨rfl, rfl⟩
  go_wp2_with fail
  go_ret
  exact ⟨rfl, rfl⟩

set_option maxHeartbeats 1000000 in
theorem index_rows (w : World) (eb bb : Nat) (ao : Option Addr) (n c : Nat) (he : w.cell? ⟨eb, 0, none⟩ = some (.slice ao n c)) (hn : n ≤ 9223372036854775807) (hb : w.cell? ⟨bb, 0, none⟩ = some (.func (.func 32) #[] #[.pointer (some ⟨eb, 0, none⟩)]))
    (v : Value) (G : List (List Int)) (h : RowsIn w v G) :
    Calls Try.prog 41 #[v, .func (.func 34) #[] #[.pointer (some ⟨bb, 0, none⟩)]] w (FindEnd w (badGraph n G)) := by
  obtain ⟨lo, lc, b, off, rfl, hl, hc⟩ := h
  have HC := hid hc
  clear hc
  go_enter Try.func41, Try.ntmps41
  go_wp2_with fail
  go_loopw [8] (fun i wr => FindRel w (fun j => (G.take j).any (badRow n)) G.length i wr) (fun i _ => G.length - (intOf i).toNat)
  case atStart => exact ⟨0, rfl, by omega, by simp, rfl⟩
  case round =>
    obtain ⟨j, rfl, hj, hbad, rfl⟩ := hrel
    have HB := hid hbad
    clear hbad
    by_cases hgo : j < G.length
    · obtain ⟨x, hx⟩ : ∃ x, G[j]? = some x := ⟨G[j], by simp [hgo]⟩
      obtain ⟨rfl, lv, hcx, hin⟩ := HC.out j x hx
      have HX := hid hx
      have HBA := hid (lit2_any wr eb bb ao n c he hn hb lv x hin)
      obtain ⟨q, hq⟩ : ∃ q, q = badRow n x := ⟨_, rfl⟩
      rw [← hq] at HBA
      clear hx hin
      cases q with
      | true =>
        have HE := hid (any_here HX.out hq.symm)
        clear hq
        go_wp2_with fail
        refine HBA.out.mono ?_
        rintro e w' ⟨rfl, rfl⟩
        go_wp2_with fail
        go_ret
        exact ⟨_, rfl, by rw [badGraph, HE.out]; simp, by omega, by omega, rfl⟩
      | false =>
        have HE := hid (any_take HX.out HB.out hq.symm)
        clear hq
        go_wp2_with fail
        refine HBA.out.mono ?_
        rintro e w' ⟨rfl, rfl⟩
        go_wp2_with fail
        go_roundw
        case rel => exact ⟨j + 1, by simp, by omega, HE.out, rfl⟩
        case measure => simp [intOf]; omega
    · obtain rfl : j = G.length := by omega
      go_wp2_with fail
      go_ret
      refine ⟨_, rfl, ?_, by omega, by omega, rfl⟩
      have := HB.out
      rw [List.take_length] at this
      rw [badGraph, this]
      rfl

set_option maxHeartbeats 400000 in
theorem contains_rows (w : World) (eb bb : Nat) (ao : Option Addr) (n c : Nat) (he : w.cell? ⟨eb, 0, none⟩ = some (.slice ao n c)) (hn : n ≤ 9223372036854775807) (hb : w.cell? ⟨bb, 0, none⟩ = some (.func (.func 32) #[] #[.pointer (some ⟨eb, 0, none⟩)]))
    (v : Value) (G : List (List Int)) (h : RowsIn w v G) :
    Calls Try.prog 33 #[v, .func (.func 34) #[] #[.pointer (some ⟨bb, 0, none⟩)]] w fun e w' => e = .returned (.bool (badGraph n G)) ∧ w = w' := by
  have H := hid (index_rows w eb bb ao n c he hn hb v G h)
  clear he hb h
  go_enter Try.func33, Try.ntmps33
  go_wp2_with fail
  refine H.out.mono ?_
  rintro e w' ⟨r, rfl, hr, r1, r2, rfl⟩
  have HR := hid hr
  clear hr
  go_wp2_with fail
  go_ret
  exact ⟨ret_bool (by rw [HR.out]), rfl⟩

def rightB (G : List (List Int)) : Bool := decide (G.length ≤ 2000) && !badGraph G.length G

set_option maxHeartbeats 1000000 in
theorem right_any (w : World) (v : Value) (G : List (List Int)) (h : RowsIn w v G) :
    Calls Try.prog 21 #[v] w fun e w' => e = .returned (.bool (rightB G)) ∧ Below w.heap.size w w' := by
  have hmf : ∀ (fn : Fn) (first cap : Array Value) (x : World), (Instr.makeFunc fn first cap).run Try.prog x = .ok (.func fn first cap) x := fun _ _ _ _ => rfl
  have h0 := h
  obtain ⟨lo, lc, b, off, rfl, hl, _⟩ := h0
  have H := hid (fun x hx e1 e2 => contains_rows x w.heap.size (w.heap.size + 1) lo G.length lc e1 hl e2 (.slice lo G.length lc) G (h.below hx))
  clear h
  by_cases hg : G.length ≤ 2000
  · go_enter Try.func21, Try.ntmps21
    go_wp2_with fail
    refine (H.out _ ?yx ?ye1 ?ye2).mono ?yk
    case yx => exact ((Below.refl _ w).alloc (Nat.le_refl _) _).alloc (by simp) _
    case ye1 => exact cell_of (heap_alloc_keep (heap_alloc_new w _) _) rfl
    case ye2 =>
      have := heap_alloc_new (w.alloc (.cells #[.slice lo G.length lc] 22)) (.cells #[.func (.func 32) #[] #[.pointer (some ⟨w.heap.size, 0, none⟩)]] 57)
      rw [World.size_alloc] at this
      exact cell_of this rfl
    case yk =>
      rintro e w' ⟨rfl, rfl⟩
      go_wp2_with fail
      go_ret
      exact ⟨ret_bool (by simp [rightB, hg]), ((Below.refl _ w).alloc (Nat.le_refl _) _).alloc (by simp) _⟩
  · go_enter Try.func21, Try.ntmps21
    go_wp2_with fail
    go_ret
    exact ⟨ret_bool (by simp [rightB, hg]), ((Below.refl _ w).alloc (Nat.le_refl _) _).alloc (by simp) _⟩

end Go.Proofs.Ytagfgbmaibadjaa
