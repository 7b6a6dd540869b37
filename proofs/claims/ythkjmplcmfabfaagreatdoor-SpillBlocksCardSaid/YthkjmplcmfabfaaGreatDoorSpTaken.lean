/- A map that tells of places whether they are taken; contract of spill.free. No condition. -/
import Derived.Test.YthkjmplcmfabfaaGreatDoorSpMay
import Derived.Test.YthkjmplcmfabfaaGreatDoorSpOwn
import Derived.Maps.OwnOps
import Derived.Maps.OwnSet
import Derived.Maps.Views
import Derived.DeepKeys4
namespace Go.Proofs.YthkjmplcmfabfaaGreatDoor
open Go.RowKit Go.Lib Go.Maps

theorem at_laid : laidOutB Tryz.prog = true := by kernel_rfl
theorem at_row : (38 : TypeId) < Tryz.prog.types.size := of_decide_eq_true (by kernel_rfl)
theorem at_wide : (match Tryz.prog.underlying 38 with | some (.array _ _) | some (.struct _) => true | _ => false) = true := by kernel_rfl
set_option maxRecDepth 100000 in
theorem at_law : WideMaps.KeyLaw Tryz.prog 38 := deep_law_laid at_laid (m := 2) (by omega) at_row (by kernel_rfl) at_wide
theorem at_keyed : Keyed Tryz.prog 38 := Keyed.of_law at_law
theorem at_type : Tryz.prog.keyType 38 = true := by kernel_rfl
theorem at_size : ∃ m, Tryz.prog.types.size = m + 1 := ⟨Tryz.prog.types.size - 1, by have : 0 < Tryz.prog.types.size := of_decide_eq_true (by kernel_rfl); omega⟩
theorem at_cells : Tryz.prog.cellsOf 38 = 3 := by kernel_rfl
theorem int_cells : Tryz.prog.cellsOf 3 = 1 := by kernel_rfl
theorem bool_zero (w : World) : (zeroValue 4).run Tryz.prog w = .ok (.bool false) w := by kernel_rfl

/-- a place whose numbers are ints -/
def SmallAt (p : PAt) : Prop := (-9223372036854775808 ≤ p.1 ∧ p.1 ≤ 9223372036854775807) ∧ (-9223372036854775808 ≤ p.2.1 ∧ p.2.1 ≤ 9223372036854775807) ∧ (-9223372036854775808 ≤ p.2.2 ∧ p.2.2 ≤ 9223372036854775807)
theorem atV_inj {p q : PAt} (h : atV p = atV q) : p = q := by
  obtain ⟨p1, p2, p3⟩ := p
  obtain ⟨q1, q2, q3⟩ := q
  simp [atV] at h
  simp [h]
theorem at_key (p : PAt) (h : SmallAt p) : ∃ kl, keyOf Tryz.prog 38 (atV p) = some kl := by
  obtain ⟨p1, p2, p3⟩ := p
  obtain ⟨h1, h2, h3⟩ := h
  have w1 : (Lit.int .i64 p1).wf = true := WalkArith.wf_i64 h1
  have w2 : (Lit.int .i64 p2).wf = true := WalkArith.wf_i64 h2
  have w3 : (Lit.int .i64 p3).wf = true := WalkArith.wf_i64 h3
  obtain ⟨m, hm⟩ := at_size
  unfold keyOf
  rw [Tryz.underlying38]
  have hf : (atV (p1, p2, p3)).formed Tryz.prog 38 = true := by simp [Value.formed, Tryz.underlying38, at_cells, atV]
  simp only [at_type, hf, Bool.and_self, if_true, Option.map_eq_some_iff]
  rw [hm]
  simp [Program.keyLits, Tryz.underlying38, Tryz.underlying3, at_cells, int_cells, atV, Value.cells, w1, w2, w3]

/-- block b is a map of at most n entries that tells of which places S holds -/
def TakenAt (w : World) (b n : Nat) (S : PAt → Prop) : Prop :=
  ∃ D : DataW Unit, w.ownsMap Tryz.prog 38 (plainElem Tryz.prog 4) b n D ∧ ∀ p kl, keyOf Tryz.prog 38 (atV p) = some kl → ∃ x : Bool, D.atKey kl (.lit (.bool false)) = .lit (.bool x) ∧ (x = true ↔ S p)
theorem TakenAt.made (w : World) : TakenAt (w.alloc (.map #[] 0)) w.heap.size 0 (fun _ => False) :=
  ⟨_, World.ownsMap_made _ _ _ _, fun p kl _ => ⟨false, rfl, by simp⟩⟩
theorem plainElem_boolP {P : Program} {e : TypeId} (he : P.underlying e = some .bool) {v : Value} {d : DataW Unit} {ps : List MemPlace} {x : Bool} (h : plainElem P e v = some (d, ps)) (hd : d = .lit (.bool x)) : v = .bool x := by
  subst hd
  cases v <;> simp [plainElem, he] at h
  simp [h]
theorem plainElem_bool_inv {v : Value} {d : DataW Unit} {ps : List MemPlace} {x : Bool} (h : plainElem Tryz.prog 4 v = some (d, ps)) (hd : d = .lit (.bool x)) : v = .bool x := plainElem_boolP Tryz.underlying4 h hd
open Classical in
theorem TakenAt.look {w : World} {b n : Nat} {S : PAt → Prop} (h : TakenAt w b n S) (p : PAt) (hp : SmallAt p) : (Instr.lookup 63 (.map (some b)) (atV p) false).run Tryz.prog w = .ok (.bool (decide (S p))) w := by
  obtain ⟨D, h1, h2⟩ := h
  obtain ⟨kl, hk⟩ := at_key p hp
  obtain ⟨v, ps, hr, hv⟩ := h1.lookup at_keyed Tryz.underlying63 (bool_zero w) (plainElem_bool Tryz.underlying4 false) hk
  obtain ⟨x, hx, hi⟩ := h2 p kl hk
  rw [hr, plainElem_bool_inv hv hx]
  have : x = decide (S p) := by rw [Bool.eq_iff_iff, hi]; simp
  rw [this]
theorem TakenAt.put {w : World} {b n : Nat} {S : PAt → Prop} (h : TakenAt w b n S) (hn : n < 1000000000) (p : PAt) (hp : SmallAt p) :
    ∃ w', (Instr.mapUpdate 63 (.map (some b)) (atV p) (.bool true)).run Tryz.prog w = .ok () w' ∧ TakenAt w' b (n + 1) (fun q => S q ∨ q = p) ∧ w.grownBy w' (some b) := by
  obtain ⟨D, h1, h2⟩ := h
  obtain ⟨kl, hk⟩ := at_key p hp
  obtain ⟨w', hr, hown, hg⟩ := h1.update at_keyed Tryz.underlying63 (by unfold maxLen; omega) hk (plainElem_bool Tryz.underlying4 true)
  refine ⟨w', hr, ⟨_, hown, fun q kq hq => ?_⟩, hg⟩
  by_cases e : q = p
  · subst e
    rw [hk] at hq
    cases hq
    exact ⟨true, atKey_put_same h1.isMap (at_keyed.key hk) _ _, by simp⟩
  · have hne : kq ≠ kl := fun ek => e (atV_inj (at_keyed.inj hq (ek ▸ hk)))
    obtain ⟨x, hx, hi⟩ := h2 q kq hq
    exact ⟨x, by rw [atKey_put_other hne]; exact hx, by rw [hi]; simp [e]⟩
theorem TakenAt.lt {w : World} {b n : Nat} {S : PAt → Prop} (h : TakenAt w b n S) : b < w.heap.size := by
  obtain ⟨D, h1, -⟩ := h
  exact h1.lt
theorem TakenAt.grown {w w' : World} {b n : Nat} {S : PAt → Prop} {row : Option Nat} (h : TakenAt w b n S) (hg : w.grownBy w' row) (hne : some b ≠ row) : TakenAt w' b n S := by
  obtain ⟨D, h1, h2⟩ := h
  exact ⟨D, h1.kept hg hne, h2⟩
theorem TakenAt.chg {w w' : World} {b n : Nat} {S : PAt → Prop} {F : List Nat} (h : TakenAt w b n S) (hc : Chg F w w') (hne : b ∉ F) : TakenAt w' b n S := by
  obtain ⟨D, ⟨es, clock, hb, F', hs, hD⟩, h2⟩ := h
  exact ⟨D, ⟨es, clock, hc.heap hb hne, F', hs, hD⟩, h2⟩
theorem TakenAt.below {w w' : World} {b n : Nat} {S : PAt → Prop} (h : TakenAt w b n S) (hb : Below w.heap.size w w') : TakenAt w' b n S := h.chg (F := []) (Chg.of_below hb) (by simp)
theorem TakenAt.of_iff {w : World} {b n m : Nat} {S S' : PAt → Prop} (h : TakenAt w b n S) (hn : n ≤ m) (hs : ∀ p, S p ↔ S' p) : TakenAt w b m S' := by
  obtain ⟨D, h1, h2⟩ := h
  exact ⟨D, h1.mono hn, fun p kl hk => by obtain ⟨x, hx, hi⟩ := h2 p kl hk; exact ⟨x, hx, hi.trans (hs p)⟩⟩
end Go.Proofs.YthkjmplcmfabfaaGreatDoor
