/- Places and spills held against each other. No condition. -/
import Derived.Test.YthkjmplcmfabfaaGreatDoorSpTaken
namespace Go.Proofs.YthkjmplcmfabfaaGreatDoor
open Go.RowKit Go.Lib Go.Maps

def SmallSp (x : PSp) : Prop := SmallAt x.1 ∧ (-9223372036854775808 ≤ x.2.1 ∧ x.2.1 ≤ 9223372036854775807) ∧ (-9223372036854775808 ≤ x.2.2 ∧ x.2.2 ≤ 9223372036854775807)
theorem spV_inj {x y : PSp} (h : spV x = spV y) : x = y := by
  obtain ⟨⟨x1, x2, x3⟩, x4, x5⟩ := x
  obtain ⟨⟨y1, y2, y3⟩, y4, y5⟩ := y
  simp [spV] at h
  simp [h]
theorem sp_cells : Tryz.prog.cellsOf 40 = 5 := by kernel_rfl
theorem at_lits (p : PAt) (h : SmallAt p) : Tryz.prog.keyLits 2 38 (atC p) = some [.int .i64 p.1, .int .i64 p.2.1, .int .i64 p.2.2] := by
  obtain ⟨p1, p2, p3⟩ := p
  obtain ⟨h1, h2, h3⟩ := h
  have w1 : (Lit.int .i64 p1).wf = true := WalkArith.wf_i64 h1
  have w2 : (Lit.int .i64 p2).wf = true := WalkArith.wf_i64 h2
  have w3 : (Lit.int .i64 p3).wf = true := WalkArith.wf_i64 h3
  simp [Program.keyLits, Tryz.underlying38, Tryz.underlying3, at_cells, int_cells, atC, w1, w2, w3]
theorem int_lits (n : Int) (h : -9223372036854775808 ≤ n ∧ n ≤ 9223372036854775807) : Tryz.prog.keyLits 2 3 [.int .i64 n] = some [.int .i64 n] := by
  have w1 : (Lit.int .i64 n).wf = true := WalkArith.wf_i64 h
  simp [Program.keyLits, Tryz.underlying3, w1]
theorem sp_lits (x : PSp) (h : SmallSp x) : Tryz.prog.keyLits 3 40 (spC x) = some [.int .i64 x.1.1, .int .i64 x.1.2.1, .int .i64 x.1.2.2, .int .i64 x.2.1, .int .i64 x.2.2] := by
  obtain ⟨⟨x1, x2, x3⟩, x4, x5⟩ := x
  obtain ⟨h1, h4, h5⟩ := h
  have e1 := at_lits _ h1
  have e4 := int_lits _ h4
  have e5 := int_lits _ h5
  unfold atC at e1
  dsimp only at e1 e4 e5
  unfold Program.keyLits
  simp [Tryz.underlying40, sp_cells, at_cells, int_cells, spC, e1, e4, e5]
theorem at_formed (p : PAt) : (atV p).formed Tryz.prog 38 = true := by simp [Value.formed, Tryz.underlying38, at_cells, atV]
theorem sp_formed (x : PSp) : (spV x).formed Tryz.prog 40 = true := by simp [Value.formed, Tryz.underlying40, sp_cells, spV]
set_option maxRecDepth 100000 in
theorem eq_at (p q : PAt) (hp : SmallAt p) (hq : SmallAt q) (w : World) : (Op.equalIn 10000 38 (atV p) (atV q)).run Tryz.prog w = .ok (decide (p = q)) w := by
  obtain ⟨r, h3, h4⟩ := run_equalIn_deep (P := Tryz.prog) 9998 2 38 (by kernel_rfl) w 2 2 _ _ _ _ (at_formed p) (at_formed q) (at_lits p hp) (at_lits q hq)
  rw [h3]
  congr 1
  rw [Bool.eq_iff_iff, h4, decide_eq_true_iff]
  obtain ⟨p1, p2, p3⟩ := p
  obtain ⟨q1, q2, q3⟩ := q
  simp
set_option maxRecDepth 100000 in
theorem eq_sp (x y : PSp) (hx : SmallSp x) (hy : SmallSp y) (w : World) : (Op.equalIn 10000 40 (spV x) (spV y)).run Tryz.prog w = .ok (decide (x = y)) w := by
  obtain ⟨r, h3, h4⟩ := run_equalIn_deep (P := Tryz.prog) 9997 3 40 (by kernel_rfl) w 3 3 _ _ _ _ (sp_formed x) (sp_formed y) (sp_lits x hx) (sp_lits y hy)
  rw [h3]
  congr 1
  rw [Bool.eq_iff_iff, h4, decide_eq_true_iff]
  obtain ⟨⟨x1, x2, x3⟩, x4, x5⟩ := x
  obtain ⟨⟨y1, y2, y3⟩, y4, y5⟩ := y
  simp [and_assoc]
theorem small_two {p : PAt} (h : InTwo p) : SmallAt p := by
  unfold InTwo at h
  exact ⟨by omega, by omega, by omega⟩
end Go.Proofs.YthkjmplcmfabfaaGreatDoor
