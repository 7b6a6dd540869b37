/- tabulalaw26.DiskSectors answers true at whatever list of Acts, five texts and list of ints (nil too), and leaves them as they read before. No condition. -/
import Derived.Test.YtknmebknkncmoaaRows
import Derived.OpenShut
import Derived.Test.YtknmebknkncmoaaDkSectors
namespace Go.Proofs.Ytknmebknkncmoaa
open Go.ChangeShapes Go.WideShapes Go.ChangeAt Go.RowKit Go.Lib

theorem Try.own : ownKnob Try.prog.godebug = none := by kernel_rfl
theorem Try.laidOut : laidOutB Try.prog = true := by kernel_rfl

section
variable {H : Type} {enc : TypeId × Value → H} {w : World} {base : Nat} {spare : Nat → Bool} {held : Bool}
theorem five_open {v : Value} {d : DataW H} {p : List MemPlace} {r : Reach} {b0 : Nat} (hv : Value.okWide Try.prog w r b0 53 v) (h : DataW.Trod enc Try.prog w base spare held 53 v d p) :
    ∃ t0 t1 t2 t3 t4 : Bs, v = .agg #[str t0, str t1, str t2, str t3, str t4] ∧ ∀ t ∈ [t0, t1, t2, t3, t4], t.length ≤ 9223372036854775807 := by
  simp only [Value.okWide, Try.underlying53] at hv
  obtain ⟨cs, rfl, hsz, _⟩ := hv
  have hc53 : Try.prog.cellsOf 53 = 5 := by kernel_rfl
  have hc9 : Try.prog.cellsOf 9 = 1 := by kernel_rfl
  rw [hc53] at hsz
  obtain ⟨fuel, hf⟩ := h
  obtain ⟨xs, m, _, _, _, hlen, hel⟩ := Go.DataW.trod_array Try.underlying53 hf
  rw [hc9] at hel
  obtain ⟨l⟩ := cs
  match l, hsz with
  | [c0, c1, c2, c3, c4], _ =>
    have one : ∀ i, i < 5 → ∀ c, (([c0, c1, c2, c3, c4] : List Value).drop (i * 1)).take 1 = [c] → ∃ t : Bs, c = str t ∧ t.length ≤ 9223372036854775807 := by
      intro i hi c hc
      have h1 := hel i hi
      have h1' : DataW.trod enc Try.prog w base spare held m 9 [c] = xs[i]? := by rw [← hc]; exact h1
      rw [List.getElem?_eq_getElem (by omega)] at h1'
      obtain ⟨s, e, _, hw⟩ := DataW.trod_string Try.underlying9 h1'
      simp only [List.cons.injEq, and_true] at e
      subst e
      refine ⟨s.data.toList, rfl, ?_⟩
      have : s.size = s.data.toList.length := by cases s; rfl
      unfold maxLen at hw
      omega
    obtain ⟨t0, rfl, k0⟩ := one 0 (by omega) c0 rfl
    obtain ⟨t1, rfl, k1⟩ := one 1 (by omega) c1 rfl
    obtain ⟨t2, rfl, k2⟩ := one 2 (by omega) c2 rfl
    obtain ⟨t3, rfl, k3⟩ := one 3 (by omega) c3 rfl
    obtain ⟨t4, rfl, k4⟩ := one 4 (by omega) c4 rfl
    exact ⟨t0, t1, t2, t3, t4, rfl, by simp [k0, k1, k2, k3, k4]⟩
end

set_option maxRecDepth 100000 in
theorem sectors_lifted (os : Os) (started : os.Started) (H : Type) (enc : TypeId × Value → H) :
    ReturnsInHanded {} Try.checked os 6 .any (Rows.diskSectorsSpec.pre6 enc Try.prog Try.f6 Rows.diskSectorsRow.domain false) (Rows.diskSectorsSpec.post enc Try.prog Try.f6 false true false false) := by
  refine returnsInHanded_of_change (C := Try.checked) Try.own started (by kernel_rfl) Try.func6
    (ChangeSpec.witness6 (enc := enc) (C := Try.checked) false ⟨#[], #[.slice none 0 0, .agg #[.string ByteArray.empty, .string ByteArray.empty, .string ByteArray.empty, .string ByteArray.empty, .string ByteArray.empty], .slice none 0 0], []⟩ 8 (by kernel_rfl) (by kernel_rfl) (by kernel_rfl) (by kernel_rfl)) ?_
  intro W base args ds gs before hval0 hW hcnd _
  have hval : ∀ (j : Nat) t v, Try.f6.params[j]? = some t → args[j]? = some v → Value.okWide Try.prog W .any base t v := hval0
  have hW' := hW
  obtain ⟨p, q, hA0, hV, rfl, hfz, hnd⟩ := hW
  have hA : DataW.TrodAll enc Try.prog W 0 (fun _ => true) true Try.f6.params.toList args.toList ds p := hA0
  rw [Try.params6] at hA hval
  obtain ⟨v0, v1, v2, d0, d1, d2, p0, p1, p2, rfl, rfl, rfl, h0, h1, h2⟩ := trodAll_three hA
  obtain ⟨rfl, rfl⟩ := trodVars_none hV
  obtain ⟨l0, a0, _⟩ := acts_open (hval 0 22 v0 rfl rfl) h0
  obtain ⟨t0, t1, t2, t3, t4, rfl, ht⟩ := five_open (hval 1 53 v1 rfl rfl) h1
  obtain ⟨ks, a2, hkl, hkr⟩ := ints_open (hval 2 29 v2 rfl rfl) h2
  unfold maxLen at hkl
  clear hA0 hval0
  simp only [List.append_nil] at hW'
  have hlt : ∀ x ∈ p0 ++ p1 ++ p2, x.block < W.heap.size := fun x hx => hW'.lt x hx
  refine (sectors_any W v0 v2 t0 t1 t2 t3 t4 l0 ks a0 a2 hkr (by omega) ht).mono fun e W' ⟨he, hw⟩ => ?_
  subst he
  exact ⟨_, rfl, post_of_below (pa := p0 ++ (p1 ++ p2)) (pv := []) hW' (fun _ _ _ => trodAll_mk1 (shut_bool Try.underlying4 true))
    (fun sp hsp => trodAll_mk3 (trod_later Try.laidOut (by kernel_rfl) (of_decide_eq_true (by kernel_rfl)) h0 hw hlt hsp (by simp +contextual)) (trod_later Try.laidOut (by kernel_rfl) (of_decide_eq_true (by kernel_rfl)) h1 hw hlt hsp (by simp +contextual))
      (trod_later Try.laidOut (by kernel_rfl) (of_decide_eq_true (by kernel_rfl)) h2 hw hlt hsp (by simp +contextual)))
    (fun _ _ => rfl) (by simp) hw (ok_one (by kernel_rfl) rfl (okWide_bool_mk Try.underlying4 true))⟩

theorem diskSectors_holds : Rows.DiskSectorsSaid :=
  OpenClaim.holds_of_wide 6 Try.f6 rfl rfl rfl rfl rfl rfl rfl ⟨rfl, rfl, rfl, rfl, rfl⟩ rfl rfl rfl rfl rfl (by kernel_rfl) Try.func6 (by kernel_rfl)
    (of_decide_eq_true (by kernel_rfl)) (by unfold Func.isWrapper; first | (rw [if_pos (by decide +kernel)]; kernel_rfl) | (rw [if_neg (by decide +kernel)]; exact ⟨rfl, rfl⟩))
    (fun os started H enc _ => sectors_lifted os started H enc)

end Go.Proofs.Ytknmebknkncmoaa
