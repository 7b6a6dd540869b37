/- tabulalaw13.IslandsTells answers true at whatever arguments, and leaves them as they read before. No condition. -/
import Derived.Test.YtagfgbmaibadjaaRows
import Derived.Test.YtagfgbmaibadjaaIsOpen
import Derived.Test.YtagfgbmaibadjaaIsTells
namespace Go.Proofs.Ytagfgbmaibadjaa
open Go.ChangeShapes Go.WideShapes Go.ChangeAt Go.RowKit Go.Lib

set_option maxRecDepth 100000 in
theorem tells_lifted (os : Os) (started : os.Started) (H : Type) (enc : TypeId × Value → H) :
    ReturnsInHanded {} Try.checked os 3 .any (Rows.islandsTellsSpec.pre6 enc Try.prog Try.f3 Rows.islandsTellsRow.domain false) (Rows.islandsTellsSpec.post enc Try.prog Try.f3 false true false false) := by
  refine returnsInHanded_of_change (C := Try.checked) Try.own started (by kernel_rfl) Try.func3
    (ChangeSpec.witness6 (enc := enc) (C := Try.checked) false ⟨#[], #[.slice none 0 0, .slice none 0 0, .slice none 0 0], []⟩ 8 (by kernel_rfl) (by kernel_rfl) (by kernel_rfl) (by kernel_rfl)) ?_
  intro W base args ds gs before hval0 hW hcnd _
  have hval : ∀ (j : Nat) t v, Try.f3.params[j]? = some t → args[j]? = some v → Value.okWide Try.prog W .any base t v := hval0
  have hW' := hW
  obtain ⟨p, q, hA0, hV, rfl, hfz, hnd⟩ := hW
  have hA : DataW.TrodAll enc Try.prog W 0 (fun _ => true) true Try.f3.params.toList args.toList ds p := hA0
  rw [Try.params3] at hA hval
  obtain ⟨v0, v1, v2, d0, d1, d2, p0, p1, p2, rfl, rfl, rfl, h0, h1, h2⟩ := trodAll_three hA
  obtain ⟨rfl, rfl⟩ := trodVars_none hV
  obtain ⟨l0, a0⟩ := graph_open (hval 0 22 v0 rfl rfl) h0
  obtain ⟨l1, a1⟩ := raw_open (hval 1 23 v1 rfl rfl) h1
  obtain ⟨l2, a2⟩ := part_open (hval 2 24 v2 rfl rfl) h2
  clear hA0 hval0
  simp only [List.append_nil] at hW'
  have hlt : ∀ x ∈ p0 ++ p1 ++ p2, x.block < W.heap.size := fun x hx => hW'.lt x (by simpa using hx)
  refine (tells_any W v0 v1 v2 l0 l1 l2 a0 a1 a2).mono fun e W' ⟨he, hw⟩ => ?_
  subst he
  exact ⟨_, rfl, post_of_below (pa := p0 ++ (p1 ++ (p2))) (pv := []) hW' (fun _ _ _ => trodAll_mk1 (shut_bool Try.underlying4 true))
    (fun sp hsp => trodAll_mk3 (trod_later Try.laidOut (by kernel_rfl) (of_decide_eq_true (by kernel_rfl)) h0 hw hlt (fun x hx => hsp x (by simpa using hx)) (by simp +contextual)) (trod_later Try.laidOut (by kernel_rfl) (of_decide_eq_true (by kernel_rfl)) h1 hw hlt (fun x hx => hsp x (by simpa using hx)) (by simp +contextual)) (trod_later Try.laidOut (by kernel_rfl) (of_decide_eq_true (by kernel_rfl)) h2 hw hlt (fun x hx => hsp x (by simpa using hx)) (by simp +contextual)))
    (fun _ _ => rfl) (by simp) hw (ok_one (by kernel_rfl) rfl (okWide_bool_mk Try.underlying4 true))⟩

theorem islandsTells_holds : Rows.IslandsTellsSaid :=
  OpenClaim.holds_of_wide 3 Try.f3 rfl rfl rfl rfl rfl rfl rfl ⟨rfl, rfl, rfl, rfl, rfl⟩ rfl rfl rfl rfl rfl (by kernel_rfl) Try.func3 (by kernel_rfl)
    (of_decide_eq_true (by kernel_rfl)) (by unfold Func.isWrapper; first | (rw [if_pos (by decide +kernel)]; kernel_rfl) | (rw [if_neg (by decide +kernel)]; exact ⟨rfl, rfl⟩))
    (fun os started H enc _ => tells_lifted os started H enc)

end Go.Proofs.Ytagfgbmaibadjaa
