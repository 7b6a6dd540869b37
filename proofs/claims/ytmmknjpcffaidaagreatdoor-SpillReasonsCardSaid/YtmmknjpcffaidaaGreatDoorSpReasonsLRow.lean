/- tabulalaw14.SpillReasons answers true at whatever arguments, and leaves them as they read before: the row and its tied card. No condition but the variables that the row lists. -/
import Derived.Test.YtmmknjpcffaidaaGreatDoorSpLaid
import Derived.Test.YtmmknjpcffaidaaGreatDoorSpFacts
import Derived.Test.YtmmknjpcffaidaaGreatDoorSpOpenS
import Derived.Test.YtmmknjpcffaidaaGreatDoorSpReasonsL
import Derived.SevenTiedAt
import Derived.Stop.Joined
namespace Go.Proofs.YtmmknjpcffaidaaGreatDoor
open Go.ChangeShapes Go.WideShapes Go.ChangeAt Go.RowKit Go.Lib

set_option maxRecDepth 100000 in
theorem reasons_lifted (os : Os) (started : os.Started) (H : Type) (enc : TypeId × Value → H) :
    ReturnsInHanded {} Tryz.checked os 5 .any (fun w args => (Rows.spillReasonsSpec.pre enc Tryz.prog Tryz.f5 Rows.spillReasonsRow.domain false w args ∧ laidMetH Tryz.prog laidList w) ∧ sizedMet enc Tryz.prog Tryz.f5 (OpenSpec.ofChange Rows.spillReasonsSpec) false w args)
      (Rows.spillReasonsSpec.post enc Tryz.prog Tryz.f5 false true false false) := by
  refine returnsInHanded_of_change_and (C := Tryz.checked) (X := fun w _ => laidMetH Tryz.prog laidList w) (fun _ _ _ hh h => h.of_heap hh) Tryz.own started (by kernel_rfl) Tryz.func5
    (ChangeSpec.witness_shaped (enc := enc) (C := Tryz.checked) (os := os) (X := fun w _ => laidMetH Tryz.prog laidList w) false (World.laidAll Tryz.prog os laidList) #[.slice none 0 0, .slice none 0 0] 8 (World.laidAll_os _ _ _)
      (laid_shaped os _) (by kernel_rfl) (by kernel_rfl) (by kernel_rfl) (laid_met os _)) ?_
  intro W base args ds gs before hval0 hW hcnd _ hL _
  have hval : ∀ (j : Nat) t v, Tryz.f5.params[j]? = some t → args[j]? = some v → Value.okWide Tryz.prog W .any base t v := hval0
  have hW' := hW
  obtain ⟨p, q, hA0, hV, rfl, hfz, hnd⟩ := hW
  have hA : DataW.TrodAll enc Tryz.prog W 0 (fun _ => true) true Tryz.f5.params.toList args.toList ds p := hA0
  rw [Tryz.params5] at hA hval
  obtain ⟨v0, v1, d0, d1, p0, p1, rfl, rfl, rfl, h0, h1⟩ := trodAll_two hA
  obtain ⟨rfl, rfl⟩ := trodVars_none hV
  obtain ⟨l0, a0, s0⟩ := ats_opened h0 (by have := hval 0 22 v0 rfl rfl; exact cells_slice Tryz.underlying22 this)
  obtain ⟨l1, a1, s1⟩ := pairs_opened h1 (by have := hval 1 23 v1 rfl rfl; exact cells_slice Tryz.underlying23 this)
  clear hA0 hval0
  simp only [List.append_nil] at hW'
  have hlt : ∀ x ∈ p0 ++ p1, x.block < W.heap.size := fun x hx => hW'.lt x (by simpa using hx)
  refine (reasons_any W (tabs_of_laid hL) v0 v1 l0 l1 a0 s0 a1 s1).mono fun e W' ⟨he, hw⟩ => ?_
  subst he
  exact ⟨_, rfl, post_of_below (pa := p0 ++ (p1)) (pv := []) hW' (fun _ _ _ => trodAll_mk1 (shut_bool Tryz.underlying4 true))
    (fun sp hsp => trodAll_mk2 (trod_later at_laid (by kernel_rfl) (of_decide_eq_true (by kernel_rfl)) h0 hw hlt (fun x hx => hsp x (by simpa using hx)) (by simp +contextual)) (trod_later at_laid (by kernel_rfl) (of_decide_eq_true (by kernel_rfl)) h1 hw hlt (fun x hx => hsp x (by simpa using hx)) (by simp +contextual)))
    (fun _ _ => rfl) (by simp) hw (ok_one (by kernel_rfl) rfl (okWide_bool_mk Tryz.underlying4 true))⟩

theorem reasons_fact0 : (Rows.spillReasonsRow.wf (OpenSpec.ofChange Rows.spillReasonsSpec)) = true := by kernel_rfl
theorem reasons_fact3 : (Tryz.f5.params.all (Tryz.prog.readableRec ·)) = true := by kernel_rfl
theorem reasons_fact4 : (namedTie Tryz.prog Rows.spillReasonsRow.named Rows.spillReasonsSpec.vars) = true := by kernel_rfl
theorem reasons_fact5 : ((Rows.spillReasonsRow.stops == [])) = true := by kernel_rfl
theorem reasons_fact6 : ((Tryz.prog.stops == [])) = true := by kernel_rfl
theorem reasons_fact7 : ((Rows.spillReasonsRow.knobs == [])) = true := by kernel_rfl
theorem reasons_fact8 : ((Tryz.prog.stopKnobs == [])) = true := by kernel_rfl
theorem reasons_fact9 : ((Rows.spillReasonsRow.inPlace == Tryz.prog.inPlace 5)) = true := by kernel_rfl
theorem reasons_fact10 : ((Rows.spillReasonsRow.unfollowed == Tryz.prog.unfollowed 5)) = true := by kernel_rfl
theorem reasons_fact11 : ((Rows.spillReasonsRow.recurses == Tryz.prog.recurses 5)) = true := by kernel_rfl
theorem reasons_fact12 : ((Rows.spillReasonsRow.named == Tryz.prog.varsNamed 5)) = true := by kernel_rfl
theorem reasons_fact13 : ((Rows.spillReasonsRow.maps == (Tryz.f5.params.toList ++ Rows.spillReasonsSpec.plain.varTypes Tryz.prog).any (Tryz.prog.mapsRec ·))) = true := by kernel_rfl
theorem reasons_fact14 : ((Rows.spillReasonsRow.ifaces == (Tryz.f5.params.toList ++ Rows.spillReasonsSpec.plain.varTypes Tryz.prog).any (Tryz.prog.ifacesRec ·))) = true := by kernel_rfl
theorem reasons_fact15 : ((Rows.spillReasonsRow.mapsOut == Tryz.prog.mapsAmong Tryz.f5.resultTypes.toList)) = true := by kernel_rfl
theorem reasons_fact16 : ((Rows.spillReasonsRow.loops == (Tryz.f5.params.toList ++ Rows.spillReasonsSpec.plain.varTypes Tryz.prog).any (Tryz.prog.loopsFrom ·))) = true := by kernel_rfl
theorem reasons_fact17 : ((Rows.spillReasonsRow.wideKeys == (Tryz.f5.params.toList ++ Rows.spillReasonsSpec.plain.varTypes Tryz.prog ++ Tryz.f5.resultTypes.toList).any (Tryz.prog.wideKeysFrom ·))) = true := by kernel_rfl
theorem reasons_fact18 : (Rows.spillReasonsSpec.vars.all (Tryz.prog.varReadable ·)) = true := by kernel_rfl
theorem reasons_fact19 : (Tryz.f5.resultTypes.all (fun t => Tryz.prog.readableRec t && decide (t < Tryz.prog.types.size))) = true := by kernel_rfl
theorem reasons_fact20 : ((Rows.spillReasonsRow.ifacesOut == Tryz.f5.resultTypes.toList.any (Tryz.prog.ifacesRec ·))) = true := by kernel_rfl
theorem reasons_fact21 : ((Rows.spillReasonsRow.loopsOut == Tryz.f5.resultTypes.toList.any (Tryz.prog.loopsFrom ·))) = true := by kernel_rfl
theorem reasons_fact22 : ((Rows.spillReasonsRow.plainKeys == Tryz.prog.plainKeys)) = true := by kernel_rfl
theorem reasons_fact23 : (Rows.spillReasonsRow.shortTexts.isNone) = true := by kernel_rfl
theorem reasons_fact29 : ((Rows.spillReasonsRow.pinned == Rows.spillReasonsRow.pinnedBy)) = true := by kernel_rfl
theorem reasons_fact30 : ((Rows.spillReasonsRow.veiled == (Tryz.f5.params.toList ++ Rows.spillReasonsSpec.plain.varTypes Tryz.prog ++ Tryz.f5.resultTypes.toList).any (Tryz.prog.veiledRec ·))) = true := by kernel_rfl
theorem reasons_fact31 : (Rows.spillReasonsRow.veiledFits Tryz.prog Tryz.f5.params.toList (Tryz.f5.params.toList ++ Rows.spillReasonsSpec.plain.varTypes Tryz.prog ++ Tryz.f5.resultTypes.toList)) = true := by kernel_rfl
theorem reasons_facts : joinedFacts Tryz.prog 5 Tryz.f5 Rows.spillReasonsSpec Rows.spillReasonsRow = true := by
  unfold joinedFacts
  exact (and_both (and_both (and_both (and_both (and_both (and_both (and_both (and_both (and_both (and_both (and_both (and_both (and_both (and_both (and_both (and_both (and_both (and_both (and_both (and_both (and_both (and_both (and_both (and_both (and_both (and_both (and_both (and_both (and_both (and_both (and_both reasons_fact0 laid_out) maps_rowed) reasons_fact3) reasons_fact4) reasons_fact5) reasons_fact6) reasons_fact7) reasons_fact8) reasons_fact9) reasons_fact10) reasons_fact11) reasons_fact12) reasons_fact13) reasons_fact14) reasons_fact15) reasons_fact16) reasons_fact17) reasons_fact18) reasons_fact19) reasons_fact20) reasons_fact21) reasons_fact22) reasons_fact23) stops_heard) may_enter) lifts_final) make_is) (by kernel_rfl)) reasons_fact29) reasons_fact30) reasons_fact31)
theorem reasons_named : Tryz.prog.funcNamed "tabula/tabulalaw14.SpillReasons" = some 5 := by kernel_rfl
theorem reasons_byText : Rows.spillReasonsRow.wfByText (OpenSpec.ofChange Rows.spillReasonsSpec) = true := by kernel_rfl

theorem spillReasons_row : Rows.SpillReasonsSaid :=
  OpenClaim.holds_of_wide 5 Tryz.f5 rfl rfl rfl rfl rfl rfl rfl ⟨rfl, rfl, rfl, rfl, rfl⟩ rfl rfl rfl rfl rfl reasons_named Tryz.func5 reasons_facts
    (of_decide_eq_true (by kernel_rfl)) (by unfold Func.isWrapper; first | (rw [if_pos (by decide +kernel)]; kernel_rfl) | (rw [if_neg (by decide +kernel)]; exact ⟨rfl, rfl⟩))
    (fun os started H enc _ => reasons_lifted os started H enc)

theorem spillReasons_holds : Rows.SpillReasonsCardSaid :=
  Claim7.holds_tied_plain_at .later [] [.data, .data, .data, .data, .sentinel, .sentinel, .data, .widerDeep, .pinned] true (true, "c85f2c943e6e02ad8e55fb0b6724a11ed4d36683a9ef96ef3ceb05c9857922f3") true spillReasons_row (fun _ h => by cases h) reasons_byText (fun _ h => by cases h) spillReasons_row_tie rfl ⟨rfl, rfl⟩ main_is rfl
    (fun f fn hf hfn => by
      obtain rfl : f = 5 := Option.some.inj (reasons_named.symm.trans hf) |>.symm
      obtain rfl : fn = Tryz.f5 := (Option.some.inj (Tryz.func5.symm.trans hfn)).symm
      exact ⟨looks_on, fun j t ht => by
        rw [Tryz.params5] at ht
        have hm : t ∈ [22, 23] := by simpa using Array.mem_of_getElem? ht
        have hall : ([22, 23].all fun u => !Tryz.prog.wantsStandIn u) = true := by kernel_rfl
        exact (show Tryz.prog.wantsStandIn t = false by simpa using List.all_eq_true.1 hall t hm)⟩)
    (goesBy_none rfl no_goes)
end Go.Proofs.YtmmknjpcffaidaaGreatDoor
