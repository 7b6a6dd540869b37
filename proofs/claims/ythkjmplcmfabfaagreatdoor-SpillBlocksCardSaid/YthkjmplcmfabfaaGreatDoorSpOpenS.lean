/- A place and a spill as an argument of the Spill laws, opened; slices of spills. No condition. -/
import Derived.Test.YthkjmplcmfabfaaGreatDoorSpOpen
import Derived.Test.YthkjmplcmfabfaaGreatDoorSpEq
namespace Go.Proofs.YthkjmplcmfabfaaGreatDoor
open Go.ChangeShapes Go.WideShapes Go.Deep Go.RowKit Go.Lib Go.ChangeAt

theorem five_of {cs : List Value} {a b c d e : Value} (hl : cs.length = 5) (h0 : cs[0]? = some a) (h1 : cs[1]? = some b) (h2 : cs[2]? = some c) (h3 : cs[3]? = some d) (h4 : cs[4]? = some e) : cs = [a, b, c, d, e] := by
  match cs, hl with
  | [x, y, z, u, v], _ => simp at h0 h1 h2 h3 h4; simp [h0, h1, h2, h3, h4]
theorem sp_of : IntsOf Tryz.prog 40 5 := ⟨sp_cells, fun enc w base spare held fuel cs x h => by
  obtain ⟨xs, m, _, _, hl, hxl, hx⟩ := DataW.trod_struct Tryz.underlying40 h
  have h0 : DataW.trod enc Tryz.prog w base spare held m 38 ((cs.drop 0).take (Tryz.prog.cellsOf 38)) = xs[0]? := hx 0 _ rfl
  have h1 : DataW.trod enc Tryz.prog w base spare held m 3 ((cs.drop 3).take (Tryz.prog.cellsOf 3)) = xs[1]? := hx 1 _ rfl
  have h2 : DataW.trod enc Tryz.prog w base spare held m 3 ((cs.drop 4).take (Tryz.prog.cellsOf 3)) = xs[2]? := hx 2 _ rfl
  have hxl' : xs.length = 3 := hxl
  rw [int_cells1, List.getElem?_eq_getElem (by omega)] at h1 h2
  rw [at_cells3, List.getElem?_eq_getElem (by omega)] at h0
  obtain ⟨zs, e1, e2, e3⟩ := at_of.2 enc w base spare held m _ _ h0
  obtain ⟨b, eb, _, wb⟩ := DataW.trod_int Tryz.underlying3 h1
  obtain ⟨c, ec, _, wc⟩ := DataW.trod_int Tryz.underlying3 h2
  match zs, e1 with
  | [x0, x1, x2], _ =>
    have q0 : cs[0]? = some (.int .i64 x0) := by have : ((cs.drop 0).take 3)[0]? = some (.int .i64 x0) := by rw [e2]; rfl
                                                 simpa using this
    have q1 : cs[1]? = some (.int .i64 x1) := by have : ((cs.drop 0).take 3)[1]? = some (.int .i64 x1) := by rw [e2]; rfl
                                                 simpa using this
    have q2 : cs[2]? = some (.int .i64 x2) := by have : ((cs.drop 0).take 3)[2]? = some (.int .i64 x2) := by rw [e2]; rfl
                                                 simpa using this
    exact ⟨[x0, x1, x2, b, c], rfl, five_of (by rw [hl]; exact sp_cells) q0 q1 q2 (drop_take_one eb) (drop_take_one ec), by
      have h3 := e3
      simp only [List.mem_cons, List.not_mem_nil, or_false, forall_eq_or_imp, forall_eq] at h3 ⊢
      exact ⟨h3.1, h3.2.1, h3.2.2, wfInt wb, wfInt wc⟩⟩⟩

set_option maxRecDepth 100000 in
theorem at_opened {H : Type} {enc : TypeId × Value → H} {w : World} {base base' : Nat} {r : Reach} {spare : Nat → Bool} {held : Bool} {v : Value} {d : DataW H} {p : List MemPlace} (h : DataW.Trod enc Tryz.prog w base spare held 38 v d p) (hv : Value.okWide Tryz.prog w r base' 38 v) :
    ∃ q : PAt, v = atV q ∧ SmallAt q := by
  obtain ⟨cs, rfl, -⟩ := okWide_struct Tryz.underlying38 hv
  obtain ⟨fuel, h⟩ := h
  obtain ⟨zs, e1, e2, e3⟩ := at_of.2 enc w base spare held fuel _ _ h
  match zs, e1 with
  | [a, b, c], _ =>
    refine ⟨(a, b, c), ?_, e3 a (by simp), e3 b (by simp), e3 c (by simp)⟩
    have : cs = #[.int .i64 a, .int .i64 b, .int .i64 c] := Array.toList_inj.1 (by simpa [Value.cells] using e2)
    rw [this]
    rfl
set_option maxRecDepth 100000 in
theorem sp_opened {H : Type} {enc : TypeId × Value → H} {w : World} {base base' : Nat} {r : Reach} {spare : Nat → Bool} {held : Bool} {v : Value} {d : DataW H} {p : List MemPlace} (h : DataW.Trod enc Tryz.prog w base spare held 40 v d p) (hv : Value.okWide Tryz.prog w r base' 40 v) :
    ∃ q : PSp, v = spV q ∧ SmallSp q := by
  obtain ⟨cs, rfl, -⟩ := okWide_struct Tryz.underlying40 hv
  obtain ⟨fuel, h⟩ := h
  obtain ⟨zs, e1, e2, e3⟩ := sp_of.2 enc w base spare held fuel _ _ h
  match zs, e1 with
  | [a, b, c, d, e], _ =>
    refine ⟨((a, b, c), d, e), ?_, ⟨e3 a (by simp), e3 b (by simp), e3 c (by simp)⟩, e3 d (by simp), e3 e (by simp)⟩
    have : cs = #[.int .i64 a, .int .i64 b, .int .i64 c, .int .i64 d, .int .i64 e] := Array.toList_inj.1 (by simpa [Value.cells] using e2)
    rw [this]
    rfl
theorem sps_opened {H : Type} {enc : TypeId × Value → H} {w : World} {base : Nat} {spare : Nat → Bool} {held : Bool} {v : Value} {d : DataW H} {p : List MemPlace} (h : DataW.Trod enc Tryz.prog w base spare held 32 v d p) (hv : v.cells.toList = [v]) :
    ∃ L : List PSp, SpsIn w v L ∧ (∀ q, q ∈ L → SmallSp q) ∧ Capped v := by
  obtain ⟨fuel, h⟩ := h
  obtain ⟨L, h1, h2, hc⟩ := rows_opened Tryz.underlying32 sp_of (by decide) hv h
  refine ⟨L.map fun zs => ((zs.getD 0 0, zs.getD 1 0, zs.getD 2 0), zs.getD 3 0, zs.getD 4 0), ?_, fun q hq => ?_, hc⟩
  · unfold SpsIn
    rw [List.map_map]
    have e : L.map (spC ∘ fun zs => ((zs.getD 0 0, zs.getD 1 0, zs.getD 2 0), zs.getD 3 0, zs.getD 4 0)) = L.map fun zs => zs.map (Value.int .i64) := List.map_congr_left fun zs hz => by
      match zs, (h2 zs hz).1 with
      | [a, b, c, d, e], _ => rfl
    rw [e]
    exact h1
  · obtain ⟨zs, hz, rfl⟩ := List.mem_map.1 hq
    obtain ⟨hl, hw⟩ := h2 zs hz
    match zs, hl with
    | [a, b, c, d, e], _ => exact ⟨⟨hw a (by simp), hw b (by simp), hw c (by simp)⟩, hw d (by simp), hw e (by simp)⟩
end Go.Proofs.YthkjmplcmfabfaaGreatDoor
