/- Contracts of the parser's small functions at the pieces of "1". No condition. -/
import Derived.Test.YtmmknjpcffaidaaGreatDoorSpLexB
namespace Go.Proofs.YtmmknjpcffaidaaGreatDoor
open Go.RowKit Go.Lib

/-- a parser of the one piece "1" -/
structure Px (p tb tf tc : Nat) (a : Int) (w : World) : Prop where
  par : w.heap[p]? = some (.cells #[.slice (some ⟨tb, tf, none⟩) 1 tc, .int .i64 a] 234 (0, 0))
  k0 : w.cell? ⟨tb, tf, none⟩ = some (.int .i64 1)
  k1 : w.cell? ⟨tb, tf + 1, none⟩ = some (.string text1)
  k2 : w.cell? ⟨tb, tf + 2, none⟩ = some (.int .i64 0)
  ne : tb ≠ p
theorem Px.keep {p tb tf tc : Nat} {a : Int} {w w' : World} (h : Px p tb tf tc a w) (hb : Below w.heap.size w w') : Px p tb tf tc a w' :=
  ⟨(hb.block _ (heap_lt h.par)).trans h.par, (hb.cell (World.block_lt_of_cell? _ _ h.k0)).trans h.k0, (hb.cell (World.block_lt_of_cell? _ _ h.k1)).trans h.k1, (hb.cell (World.block_lt_of_cell? _ _ h.k2)).trans h.k2, h.ne⟩
section
variable {p tb tf tc : Nat} {w : World}
set_option maxHeartbeats 1000000 in
theorem pIs_zero (h : Px p tb tf tc 0 w) (s : ByteArray) : Calls Tryz.prog 284 #[.pointer (some ⟨p, 0, none⟩), .string s, .int .i64 0] w fun e w' => e = .returned (.bool false) ∧ w = w' := by
  have c0 := cell_of (i := 0) h.par rfl
  have c1 := cell_of (i := 1) h.par rfl
  have k0 := h.k0
  clear h
  go_enter Tryz.func284, Tryz.ntmps284
  go_wp2_with fail
  go_ret
  exact ⟨rfl, rfl⟩
set_option maxHeartbeats 1000000 in
theorem pIs_one (h : Px p tb tf tc 1 w) (s : ByteArray) : Calls Tryz.prog 284 #[.pointer (some ⟨p, 0, none⟩), .string s, .int .i64 0] w fun e w' => e = .returned (.bool false) ∧ w = w' := by
  have c0 := cell_of (i := 0) h.par rfl
  have c1 := cell_of (i := 1) h.par rfl
  clear h
  go_enter Tryz.func284, Tryz.ntmps284
  go_wp2_with fail
  go_ret
  exact ⟨rfl, rfl⟩
set_option maxHeartbeats 1000000 in
theorem pHas_zero (h : Px p tb tf tc 0 w) (s : ByteArray) : Calls Tryz.prog 232 #[.pointer (some ⟨p, 0, none⟩), .string s] w fun e w' => e = .returned (.bool false) ∧ w = w' := by
  go_enter Tryz.func232, Tryz.ntmps232
  go_wp2_with fail
  refine (pIs_zero h s).mono ?_
  rintro e w1 ⟨rfl, rfl⟩
  go_wp2_with fail
  go_ret
  exact ⟨rfl, rfl⟩
set_option maxHeartbeats 1000000 in
theorem pHas_one (h : Px p tb tf tc 1 w) (s : ByteArray) : Calls Tryz.prog 232 #[.pointer (some ⟨p, 0, none⟩), .string s] w fun e w' => e = .returned (.bool false) ∧ w = w' := by
  go_enter Tryz.func232, Tryz.ntmps232
  go_wp2_with fail
  refine (pIs_one h s).mono ?_
  rintro e w1 ⟨rfl, rfl⟩
  go_wp2_with fail
  go_ret
  exact ⟨rfl, rfl⟩
set_option maxHeartbeats 1000000 in
theorem pNext_one (h : Px p tb tf tc 1 w) : Calls Tryz.prog 233 #[.pointer (some ⟨p, 0, none⟩)] w fun e w' => e = .returned (.tuple #[.string ⟨#[]⟩, .int .i64 0]) ∧ Below w.heap.size w w' := by
  have c0 := cell_of (i := 0) h.par rfl
  have c1 := cell_of (i := 1) h.par rfl
  clear h
  go_enter Tryz.func233, Tryz.ntmps233
  go_wp2_with fail
  go_quiet (fail)
  go_wp2_with fail
  go_ret2
  exact ⟨rfl, below_drewN (Below.refl _ w) _⟩
end
set_option maxHeartbeats 400000 in
theorem must_yes (w : World) : Calls Tryz.prog 186 #[.bool true] w fun e w' => e = .returned (.tuple #[]) ∧ w = w' := by
  go_enter Tryz.func186, Tryz.ntmps186
  go_wp2_with fail
  go_end0
  exact ⟨rfl, rfl⟩

theorem eq_dec_same (w : World) : (Op.equalIn 10000 103 (.agg #[.int .i64 1, .int .i64 0]) (.agg #[.int .i64 1, .int .i64 0])).run Tryz.prog w = .ok true w := by
  have h1 : Tryz.prog.keyLits 2 103 [.int .i64 1, .int .i64 0] = some [.int .i64 1, .int .i64 0] := by kernel_rfl
  have h2 : (Value.agg #[.int .i64 1, .int .i64 0]).formed Tryz.prog 103 = true := by kernel_rfl
  obtain ⟨r, h3, h4⟩ := run_equalIn_deep (P := Tryz.prog) 9998 2 103 (by kernel_rfl) w 2 2 _ _ _ _ h2 h2 h1 h1
  rw [h4.2 rfl] at h3
  exact h3
theorem eq_dec_zero (w : World) : (Op.equalIn 10000 103 (.agg #[.int .i64 1, .int .i64 0]) (.agg #[.int .i64 0, .int .i64 0])).run Tryz.prog w = .ok false w := by
  have h1 : Tryz.prog.keyLits 2 103 [.int .i64 1, .int .i64 0] = some [.int .i64 1, .int .i64 0] := by kernel_rfl
  have h1' : Tryz.prog.keyLits 2 103 [.int .i64 0, .int .i64 0] = some [.int .i64 0, .int .i64 0] := by kernel_rfl
  have h2 : (Value.agg #[.int .i64 1, .int .i64 0]).formed Tryz.prog 103 = true := by kernel_rfl
  have h2' : (Value.agg #[.int .i64 0, .int .i64 0]).formed Tryz.prog 103 = true := by kernel_rfl
  obtain ⟨r, h3, h4⟩ := run_equalIn_deep (P := Tryz.prog) 9998 2 103 (by kernel_rfl) w 2 2 _ _ _ _ h2 h2' h1 h1'
  have : r = false := by
    cases r with
    | false => rfl
    | true => exact absurd (h4.1 rfl) (by simp)
  rw [this] at h3
  exact h3
abbrev refL : List Value := [.string ⟨#[]⟩, .int .i64 0, .int .i64 0, .bool false, .bool false, .bool false]
theorem eq_ref_same (w : World) : (Op.equalIn 10000 94 (.agg refL.toArray) (.agg refL.toArray)).run Tryz.prog w = .ok true w := by
  have h1 : (Tryz.prog.keyLits 2 94 refL).isSome = true := by kernel_rfl
  obtain ⟨la, hla⟩ := Option.isSome_iff_exists.1 h1
  have h2 : (Value.agg refL.toArray).formed Tryz.prog 94 = true := by kernel_rfl
  obtain ⟨r, h3, h4⟩ := run_equalIn_deep (P := Tryz.prog) 9998 2 94 (by kernel_rfl) w 2 2 _ _ la la h2 h2 hla hla
  rw [h4.2 rfl] at h3
  exact h3
set_option maxHeartbeats 1000000 in
theorem decRight_one (w : World) : Calls Tryz.prog 331 #[.agg #[.int .i64 1, .int .i64 0]] w fun e w' => e = .returned (.bool true) ∧ Below w.heap.size w w' := by
  have heq := fun w => eq_dec_zero w
  go_enter Tryz.func331, Tryz.ntmps331
  go_wp2_with fail
  refine (abs_one _).mono ?_
  rintro e w1 ⟨rfl, rfl⟩
  go_wp2_with fail
  go_ret
  exact ⟨rfl, (Below.refl _ w).alloc (Nat.le_refl _) _⟩

/-- a number's tree -/
abbrev nodeL (k n : Int) : List Value := [.int .i64 k, .string ⟨#[]⟩, .int .i64 n, .int .i64 0, .bool false, .int .i64 0, .string ⟨#[]⟩, .int .i64 0, .int .i64 0, .bool false, .bool false, .bool false, .string ⟨#[]⟩, .int .i64 0, .int .i64 0, .bool false, .bool false, .bool false, .int .i64 0, .slice none 0 0]
theorem node_one : (nodeL 1 1).toArray.all (·.oneCell') = true := by kernel_rfl
set_option maxRecDepth 20000 in
set_option maxHeartbeats 1000000 in
theorem kids_one (w : World) : Calls Tryz.prog 287 #[.agg (nodeL 1 1).toArray] w fun e w' => e = .returned (.bool true) ∧ Below w.heap.size w w' := by
  go_enter Tryz.func287, Tryz.ntmps287
  go_wp2_with fail
  go_ret
  exact ⟨rfl, (Below.refl _ w).alloc (Nat.le_refl _) _⟩
end Go.Proofs.YtmmknjpcffaidaaGreatDoor
