/- Rows of places, spills and cells in memory; a workbook of two sheets in memory. No condition. -/
import Derived.Test.YthkjmplcmfabfaaGreatDoorSpFold
import Derived.Test.YthkjmplcmfabfaaGreatDoorSpValue
import Derived.Test.YthkjmplcmfabfaaGreatDoorSpBorder
namespace Go.Proofs.YthkjmplcmfabfaaGreatDoor
open Go.RowKit Go.Lib

/-- a slice whose elements have these cells, k each -/
def RowIn (w : World) (k : Nat) (v : Value) (L : List (List Value)) : Prop :=
  ∃ ao c b off, v = .slice ao L.length c ∧ L.length ≤ 9223372036854775807 ∧ ∀ (j : Nat) (cs : List Value), L[j]? = some cs → ao = some ⟨b, off, none⟩ ∧ ∀ (i : Nat) (u : Value), cs[i]? = some u → w.cell? ⟨b, off + j * k + i, none⟩ = some u
theorem RowIn.below {w w' : World} {k : Nat} {v : Value} {L : List (List Value)} (h : RowIn w k v L) (hb : Below w.heap.size w w') : RowIn w' k v L := by
  obtain ⟨ao, c, b, off, h1, h2, h3⟩ := h
  exact ⟨ao, c, b, off, h1, h2, fun j cs hj => ⟨(h3 j cs hj).1, fun i u hu => by
    have := (h3 j cs hj).2 i u hu
    exact (hb.cell (World.block_lt_of_cell? _ _ this)).trans this⟩⟩
theorem rowIn_nil (w : World) (k : Nat) (ao : Option Addr) (c : Nat) : RowIn w k (.slice ao 0 c) [] := ⟨ao, c, 0, 0, rfl, by simp, by simp⟩

def cellC (tx : PAt → ByteArray) (p : PAt) : List Value := [.int .i64 p.2.1, .int .i64 p.2.2, .string (tx p)]
def AtsIn (w : World) (v : Value) (l : List PAt) : Prop := RowIn w 3 v (l.map atC)
def SpsIn (w : World) (v : Value) (l : List PSp) : Prop := RowIn w 5 v (l.map spC)
def CellsIn (w : World) (v : Value) (tx : PAt → ByteArray) (l : List PAt) : Prop := RowIn w 3 v (l.map (cellC tx))
theorem AtsIn.below {w w' : World} {v : Value} {l : List PAt} (h : AtsIn w v l) (hb : Below w.heap.size w w') : AtsIn w' v l := RowIn.below h hb
theorem SpsIn.below {w w' : World} {v : Value} {l : List PSp} (h : SpsIn w v l) (hb : Below w.heap.size w w') : SpsIn w' v l := RowIn.below h hb
theorem CellsIn.below {w w' : World} {v : Value} {tx : PAt → ByteArray} {l : List PAt} (h : CellsIn w v tx l) (hb : Below w.heap.size w w') : CellsIn w' v tx l := RowIn.below h hb

theorem AtsIn.view {w : World} {v : Value} {l : List PAt} (h : AtsIn w v l) : ∃ ao c b off, v = .slice ao l.length c ∧ l.length ≤ 9223372036854775807 ∧ ∀ (j : Nat) (p : PAt), l[j]? = some p → ao = some ⟨b, off, none⟩ ∧
    w.cell? ⟨b, off + j * 3, none⟩ = some (.int .i64 p.1) ∧ w.cell? ⟨b, off + j * 3 + 1, none⟩ = some (.int .i64 p.2.1) ∧ w.cell? ⟨b, off + j * 3 + 2, none⟩ = some (.int .i64 p.2.2) := by
  obtain ⟨ao, c, b, off, h1, h2, h3⟩ := h
  refine ⟨ao, c, b, off, by simpa using h1, by simpa using h2, fun j p hp => ?_⟩
  have := h3 j (atC p) (by simp [hp])
  exact ⟨this.1, this.2 0 _ rfl, this.2 1 _ rfl, this.2 2 _ rfl⟩
theorem SpsIn.view {w : World} {v : Value} {l : List PSp} (h : SpsIn w v l) : ∃ ao c b off, v = .slice ao l.length c ∧ l.length ≤ 9223372036854775807 ∧ ∀ (j : Nat) (x : PSp), l[j]? = some x → ao = some ⟨b, off, none⟩ ∧
    w.cell? ⟨b, off + j * 5, none⟩ = some (.int .i64 x.1.1) ∧ w.cell? ⟨b, off + j * 5 + 1, none⟩ = some (.int .i64 x.1.2.1) ∧ w.cell? ⟨b, off + j * 5 + 2, none⟩ = some (.int .i64 x.1.2.2) ∧
    w.cell? ⟨b, off + j * 5 + 3, none⟩ = some (.int .i64 x.2.1) ∧ w.cell? ⟨b, off + j * 5 + 4, none⟩ = some (.int .i64 x.2.2) := by
  obtain ⟨ao, c, b, off, h1, h2, h3⟩ := h
  refine ⟨ao, c, b, off, by simpa using h1, by simpa using h2, fun j p hp => ?_⟩
  have := h3 j (spC p) (by simp [hp])
  exact ⟨this.1, this.2 0 _ rfl, this.2 1 _ rfl, this.2 2 _ rfl, this.2 3 _ rfl, this.2 4 _ rfl⟩
theorem CellsIn.view {w : World} {v : Value} {tx : PAt → ByteArray} {l : List PAt} (h : CellsIn w v tx l) : ∃ ao c b off, v = .slice ao l.length c ∧ l.length ≤ 9223372036854775807 ∧ ∀ (j : Nat) (p : PAt), l[j]? = some p → ao = some ⟨b, off, none⟩ ∧
    w.cell? ⟨b, off + j * 3, none⟩ = some (.int .i64 p.2.1) ∧ w.cell? ⟨b, off + j * 3 + 1, none⟩ = some (.int .i64 p.2.2) ∧ w.cell? ⟨b, off + j * 3 + 2, none⟩ = some (.string (tx p)) := by
  obtain ⟨ao, c, b, off, h1, h2, h3⟩ := h
  refine ⟨ao, c, b, off, by simpa using h1, by simpa using h2, fun j p hp => ?_⟩
  have := h3 j (cellC tx p) (by simp [hp])
  exact ⟨this.1, this.2 0 _ rfl, this.2 1 _ rfl, this.2 2 _ rfl⟩

/-- a right input -/
def InOk (s : ByteArray) : Prop := ∀ w, Tabs w → Calls Tryz.prog 22 #[.string s] w fun e w' => e = .returned (.bool true) ∧ Below w.heap.size w w'
theorem inOk_one : InOk text1 := fun w _ => input_one w
/-- a workbook of two sheets, S and T, with a right input at each of some places -/
structure BookAt (w : World) (v : Value) (A : List PAt) (tx : PAt → ByteArray) : Prop where
  at' : ∃ b off bc v0 v1, 2 ≤ bc ∧ v = .agg #[.slice (some ⟨b, off, none⟩) 2 bc, .slice none 0 0, .slice none 0 0, .slice none 0 0] ∧
    w.cell? ⟨b, off, none⟩ = some (.string nameS) ∧ w.cell? ⟨b, off + 1, none⟩ = some v0 ∧ w.cell? ⟨b, off + 2, none⟩ = some (.string nameT) ∧ w.cell? ⟨b, off + 3, none⟩ = some v1 ∧
    CellsIn w v0 tx (onSheet A 0) ∧ CellsIn w v1 tx (onSheet A 1)
  rise : Rising A
  two : ∀ p, p ∈ A → InTwo p
  few : A.length ≤ 13
  ok : ∀ p, p ∈ A → InOk (tx p)
theorem BookAt.below {w w' : World} {v : Value} {A : List PAt} {tx : PAt → ByteArray} (h : BookAt w v A tx) (hb : Below w.heap.size w w') : BookAt w' v A tx := by
  obtain ⟨⟨b, off, bc, v0, v1, hbc, h1, h2, h3, h4, h5, h6, h7⟩, hr, ht, hf, ho⟩ := h
  have k : ∀ {p : Addr} {u : Value}, w.cell? p = some u → w'.cell? p = some u := fun {p u} hc => (hb.cell (World.block_lt_of_cell? _ _ hc)).trans hc
  exact ⟨⟨b, off, bc, v0, v1, hbc, h1, k h2, k h3, k h4, k h5, h6.below hb, h7.below hb⟩, hr, ht, hf, ho⟩

theorem onSheet_le (A : List PAt) (s : Int) : (onSheet A s).length ≤ A.length := List.length_filter_le _ _
end Go.Proofs.YthkjmplcmfabfaaGreatDoor
