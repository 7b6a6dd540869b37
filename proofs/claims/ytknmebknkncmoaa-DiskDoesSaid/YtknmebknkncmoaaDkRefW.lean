/- Contract of the document's Write. -/
import Derived.Test.YtknmebknkncmoaaDkRefC
import Derived.Maps.AppendAt
import Derived.Deep.RegionLaw
namespace Go.Proofs.Ytknmebknkncmoaa
open Go.RowKit Go.Lib

theorem ref_app {w1 : World} {base rb B : Nat} {kv pv v : Value} {kept : Bs} {pend ps : List (Nat × Bs)} (R : RefAt w1 base rb kv pv kept pend) (hv : w1.ownsRow B 58 2 v ps.length (ps.flatMap pieceCells)) (hl : pend.length + ps.length ≤ 1000000000)
    (hok : ∀ p ∈ ps, p.1 + p.2.length ≤ kept.length) :
    ∃ a c w2, (Builtin.append_ #[36, 36] 36 #[pv, v]).run Try.prog w1 = .ok (.slice a (pend.length + ps.length) c) w2 ∧ w1.cell? ⟨rb, 1, none⟩ = some pv ∧ w2.cell? ⟨rb, 1, none⟩ = some pv ∧ w2.frozen? ⟨rb, 1, none⟩ = false ∧
      RefAt (w2.setCell ⟨rb, 1, none⟩ (.slice a (pend.length + ps.length) c)) base rb kv (.slice a (pend.length + ps.length) c) kept (pend ++ ps) ∧
      Chg (rb :: own pv) w1 (w2.setCell ⟨rb, 1, none⟩ (.slice a (pend.length + ps.length) c)) ∧ ∀ g, (Value.slice a (pend.length + ps.length) c).ownBlock = some g → pv.ownBlock = some g ∨ w1.heap.size ≤ g := by
  obtain ⟨i0, hi, hz0, hz1, hz2⟩ := info_parts Try.info58
  have hb : base ≤ w1.heap.size := Nat.le_of_lt (Nat.lt_of_le_of_lt R.b1 (heap_lt R.hd))
  have happ : ∃ v' w2, (Builtin.append_ #[36, 36] 36 #[pv, v]).run Try.prog w1 = .ok v' w2 ∧ w2.ownsRow base 58 2 v' (pend.length + ps.length) ((pend ++ ps).flatMap pieceCells) ∧ w1.grownBy w2 pv.ownBlock ∧
      (v'.ownBlock = pv.ownBlock ∨ v'.ownBlock = some w1.heap.size) := by
    rcases hv.2 with ⟨rfl, h0⟩ | ⟨g, cap, cur, rfl, _, _, h1, h2, _⟩
    · have : ps = [] := List.eq_nil_of_length_eq_zero h0
      subst this
      exact ⟨pv, w1, run_append_owned_none (P := Try.prog) w1 base 36 36 58 i0 2 Try.underlying36 hi pv _ _ R.hp, by simpa using R.hp, ⟨rfl, rfl, rfl, Nat.le_refl _, fun _ _ _ => rfl⟩, .inl rfl⟩
    · obtain ⟨v', w2, h1, h2, h3, _, h5⟩ := run_append_own_at (P := Try.prog) w1 base 36 36 58 i0 (.agg #[.int .i64 0, .string ⟨#[]⟩]) 2 24 Try.underlying36 hi hz0 hz1 hz2 rfl (by decide) pv pend.length _ R.hp
        ⟨g, 0, none⟩ ps.length cap (ps.flatMap pieceCells) hv.1 (hv.cells rfl) (by
          intro u hu
          obtain ⟨p, _, hp⟩ := List.mem_flatMap.1 hu
          simp only [pieceCells, List.mem_cons, List.not_mem_nil, or_false] at hp
          rcases hp with rfl | rfl <;> rfl) (by unfold maxLen; omega) (by omega) hb
      exact ⟨v', w2, h1, by rw [List.flatMap_append]; exact h2, h3, h5⟩
  obtain ⟨v', w2, h1, h2, h3, h5⟩ := happ
  obtain ⟨a, c, rfl, _⟩ := ownsRow_view h2
  have ch : Chg (own pv) w1 w2 := (Chg.refl _ w1).grown h3 (fun k hk => .inl (by simp [own, hk]))
  have nrb : ∀ g, pv.ownBlock = some g → g ≠ rb := fun g hg => by
    obtain ⟨cur, hc⟩ := owns_cells R.hp hg
    exact heap_ne hc R.hd (by decide)
  have nkv : ∀ g, kv.ownBlock = some g → g ≠ rb ∧ g ∉ own pv := fun g hg => by
    obtain ⟨cur, hc⟩ := owns_cells R.hk hg
    refine ⟨heap_ne hc R.hd (by decide), fun hm => ?_⟩
    simp only [own, Option.mem_toList] at hm
    obtain ⟨cur2, hc2⟩ := owns_cells R.hp hm
    rw [hc] at hc2
    simp at hc2
  have hd2 := ch.heap R.hd (fun hm => by simp only [own, Option.mem_toList] at hm; exact nrb _ hm rfl)
  have ch2 : Chg (rb :: own pv) w1 (w2.setCell ⟨rb, 1, none⟩ (.slice a (pend.length + ps.length) c)) := (ch.mono (by simp +contextual)).setCell (by simp) _
  have ch3 : Chg [rb] w2 (w2.setCell ⟨rb, 1, none⟩ (.slice a (pend.length + ps.length) c)) := (Chg.refl _ w2).setCell (by simp) _
  refine ⟨a, c, w2, h1, cell_of (i := 1) R.hd rfl, cell_of (i := 1) hd2 rfl, free_of (i := 1) hd2, ⟨heap_setCell_at hd2 _, ch2.owns R.hk (fun g hg => ?_), ?_, R.lo, R.hi, ?_, R.b1⟩, ch2, fun g hg => ?_⟩
  · have := nkv g hg
    simp only [List.mem_cons, not_or]
    exact this
  · rw [List.length_append]
    refine ch3.owns h2 (fun g hg => ?_)
    obtain ⟨cur, hc⟩ := owns_cells h2 hg
    simpa using heap_ne hc hd2 (by decide)
  · intro p hp
    rcases List.mem_append.1 hp with hp | hp
    · exact R.ok p hp
    · exact hok p hp
  · rcases h5 with h5 | h5
    · exact .inl (h5 ▸ hg)
    · rw [hg] at h5
      simp only [Option.some.injEq] at h5
      exact .inr (by omega)

theorem step_append_run {P : Program} {ops : Array Oper} {o : Oper} {a : Act} {w : World} {K : Act → World → Prop} {Q : Exit → Act → World → Prop} {E : Prop}
    (hg : o.guard = none) (s x : Operand) (t : TypeId) (hop : o.op = Op.call { callee := Callee.builtin Builtin.append, args := #[s, x], argTypes := #[t, t] })
    (v u : Value) (hs : a.eval s = v) (hx : a.eval x = u) {v' : Value} {w' : World} (hrun : (Builtin.append_ #[t, t] o.type #[v, u]).run P w = .ok v' w') (hK : K (a.put o.dst v') w') :
    if Region.wanted o (yielded ops a.tmps) = true then Oper.wp P o a w K Q else E := by
  have hw : Region.wanted o (yielded ops a.tmps) = true := by simp [Region.wanted, hg]
  rw [if_pos hw]
  unfold Oper.wp
  simp [execOp, hop, resolve, invoke, builtin, hs, hx, hrun, Result.andThen]
  exact hK

def RWriteEnd (w : World) (base rb : Nat) (kv pv : Value) (kept : Bs) (pend : List (Nat × Bs)) (at_ : Nat) (s : Bs) (e : Ending) (w' : World) : Prop :=
  e = .returned (.int .i64 0) ∧ ∃ pv', RefAt w' base rb kv pv' kept (pend ++ parts at_ s) ∧ Chg (rb :: own pv) w w' ∧ ∀ g, pv'.ownBlock = some g → pv.ownBlock = some g ∨ w.heap.size ≤ g

set_option maxHeartbeats 1000000 in
theorem ref_write_ok {w : World} {base rb : Nat} {kv pv : Value} {kept : Bs} {pend : List (Nat × Bs)} (R : RefAt w base rb kv pv kept pend) (at_ : Nat) (s : Bs) (h : at_ + s.length ≤ kept.length) (hpl : pend.length ≤ 100000000) :
    Calls Try.prog 27 #[.pointer (some ⟨rb, 0, none⟩), .int .i64 (at_ : Int), .string (bstr s)] w (RWriteEnd w base rb kv pv kept pend at_ s) := by
  obtain ⟨ka, kc, rfl, _⟩ := ownsRow_view R.hk
  have c0 := cell_of (i := 0) R.hd rfl
  have c1 := cell_of (i := 1) R.hd rfl
  have hhi := R.hi
  have hsz := bstr_size s
  have hps := parts_mem s.length at_ s (Nat.le_refl _)
  have hpc := parts_count s.length at_ s (Nat.le_refl _)
  have HPA := hid (fun x => parts_any x at_ s (by omega))
  have HAP := hid (show ∀ x w1 v, Below w.heap.size w x → w1.ownsRow x.heap.size 58 2 v (parts at_ s).length ((parts at_ s).flatMap pieceCells) → Below x.heap.size x w1 →
      ∃ a c w2, (Builtin.append_ #[36, 36] 36 #[pv, v]).run Try.prog w1 = .ok (.slice a (pend.length + (parts at_ s).length) c) w2 ∧ w1.cell? ⟨rb, 1, none⟩ = some pv ∧ w2.cell? ⟨rb, 1, none⟩ = some pv ∧ w2.frozen? ⟨rb, 1, none⟩ = false ∧
        RWriteEnd w base rb (.slice ka kept.length kc) pv kept pend at_ s (.returned (.int .i64 0)) (w2.setCell ⟨rb, 1, none⟩ (.slice a (pend.length + (parts at_ s).length) c)) from fun x w1 v hx hv hb => by
    have hb' := hx.trans (hb.mono hx.size)
    obtain ⟨a, c, w2, h1, h2, h3, h4, h5, h6, h7⟩ := ref_app (R.later hb') hv (by omega) (fun p hp => by have := hps p hp; omega)
    exact ⟨a, c, w2, h1, h2, h3, h4, rfl, _, h5, (Chg.of_below hb').trans h6 (fun g hg => .inl hg), fun g hg => (h7 g hg).imp id (fun h => by have := hb'.size; omega)⟩)
  clear R hps
  go_enter Try.func27, Try.ntmps27
  go_wp2_with fail
  go_region_law (first | (refine step_append_run rfl (.tmp 34) (.tmp 37) 36 rfl _ _ (by simp [Act.eval]) (by simp [Act.eval]) happ ?_) | (go_simp; refine (HPA.out _).mono ?_; rintro e w1 ⟨v, rfl, hv, hb⟩; obtain ⟨a, c, w2, happ, c10, cc, ff, RR⟩ := HAP.out _ w1 v (by first | exact Below.refl _ _ | exact (Below.refl _ _).drew) hv hb))
  all_goals (have RRH := hid RR; clear RR)
  all_goals go_wp2_with fail
  all_goals go_ret
  all_goals exact RRH.out

theorem ref_write_bad {w : World} {base rb : Nat} {kv pv : Value} {kept : Bs} {pend : List (Nat × Bs)} (R : RefAt w base rb kv pv kept pend) (a : Int) (s : ByteArray)
    (h1 : -9223372036854775808 ≤ a) (h2 : a ≤ 9223372036854775807) (hs : s.size ≤ 9223372036854775807) (hb : wthB kept.length a s.size = false) :
    Calls Try.prog 27 #[.pointer (some ⟨rb, 0, none⟩), .int .i64 a, .string s] w fun e w' => e = .returned (.int .i64 260) ∧ w = w' := by
  obtain ⟨ka, kc, hkv, _⟩ := ownsRow_view R.hk
  have hd := R.hd
  rw [hkv] at hd
  have c0 := cell_of (i := 0) hd rfl
  have hhi := R.hi
  clear R hd hkv
  by_cases t1 : a < 0
  · clear hb
    go_enter Try.func27, Try.ntmps27
    go_wp2
    go_ret
    exact ⟨rfl, rfl⟩
  · by_cases t3 : (kept.length : Int) < a
    · clear hb
      go_enter Try.func27, Try.ntmps27
      go_wp2
      go_ret
      exact ⟨rfl, rfl⟩
    · have t4 : (kept.length : Int) - a < (s.size : Int) := by
        simp only [wthB, Bool.and_eq_false_iff, decide_eq_false_iff_not] at hb
        omega
      clear hb
      go_enter Try.func27, Try.ntmps27
      go_wp2
      go_ret
      exact ⟨rfl, rfl⟩

end Go.Proofs.Ytknmebknkncmoaa
