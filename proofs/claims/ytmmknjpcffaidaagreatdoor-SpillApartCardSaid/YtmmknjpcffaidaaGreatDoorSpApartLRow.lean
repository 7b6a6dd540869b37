/- tabulalaw14.SpillApart answers true at whatever arguments, and leaves them as they read before: the row and its tied card. No condition but the variables that the row lists. -/
import Derived.Test.YtmmknjpcffaidaaGreatDoorSpLaid
import Derived.Test.YtmmknjpcffaidaaGreatDoorSpFacts
import Derived.Test.YtmmknjpcffaidaaGreatDoorSpOpenS
import Derived.Test.YtmmknjpcffaidaaGreatDoorSpApartL
import Derived.SevenTiedAt
import Derived.Stop.Joined
namespace Go.Proofs.YtmmknjpcffaidaaGreatDoor
open Go.ChangeShapes Go.WideShapes Go.ChangeAt Go.RowKit Go.Lib

set_option maxRecDepth 100000 in
theorem apart_lifted (os : Os) (started : os.Started) (H : Type) (enc : TypeId × Value → H) :
    ReturnsInHanded {} Tryz.checked os 4 .any (fun w args => (Rows.spillApartSpec.pre enc Tryz.prog Tryz.f4 Rows.spillApartRow.domain false w args ∧ laidMetH Tryz.prog laidList w) ∧ sizedMet enc Tryz.prog Tryz.f4 (OpenSpec.ofChange Rows.spillApartSpec) false w args)
      (Rows.spillApartSpec.post enc Tryz.prog Tryz.f4 false true false false) := by
  refine returnsInHanded_of_change_and (C := Tryz.checked) (X := fun w _ => laidMetH Tryz.prog laidList w) (fun _ _ _ hh h => h.of_heap hh) Tryz.own started (by kernel_rfl) Tryz.func4
    (ChangeSpec.witness_shaped (enc := enc) (C := Tryz.checked) (os := os) (X := fun w _ => laidMetH Tryz.prog laidList w) false (World.laidAll Tryz.prog os laidList) #[.slice none 0 0, .slice none 0 0] 8 (World.laidAll_os _ _ _)
      (laid_shaped os _) (by kernel_rfl) (by kernel_rfl) (by kernel_rfl) (laid_met os _)) ?_
  intro W base args ds gs before hval0 hW hcnd _ hL _
  have hval : ∀ (j : Nat) t v, Tryz.f4.params[j]? = some t → args[j]? = some v → Value.okWide Tryz.prog W .any base t v := hval0
  have hW' := hW
  obtain ⟨p, q, hA0, hV, rfl, hfz, hnd⟩ := hW
  have hA : DataW.TrodAll enc Tryz.prog W 0 (fun _ => true) true Tryz.f4.params.toList args.toList ds p := hA0
  rw [Tryz.params4] at hA hval
  obtain ⟨v0, v1, d0, d1, p0, p1, rfl, rfl, rfl, h0, h1⟩ := trodAll_two hA
  obtain ⟨rfl, rfl⟩ := trodVars_none hV
  obtain ⟨l0, a0, s0⟩ := ats_opened h0 (by have := hval 0 22 v0 rfl rfl; exact cells_slice Tryz.underlying22 this)
  obtain ⟨l1, a1, s1⟩ := pairs_opened h1 (by have := hval 1 23 v1 rfl rfl; exact cells_slice Tryz.underlying23 this)
  clear hA0 hval0
  simp only [List.append_nil] at hW'
  have hlt : ∀ x ∈ p0 ++ p1, x.block < W.heap.size := fun x hx => hW'.lt x (by simpa using hx)
  refine (apart_any W (tabs_of_laid hL) v0 v1 l0 l1 a0 s0 a1 s1).mono fun e W' ⟨he, hw⟩ => ?_
  subst he
  exact ⟨_, rfl, post_of_below (pa := p0 ++ (p1)) (pv := []) hW' (fun _ _ _ => trodAll_mk1 (shut_bool Tryz.underlying4 true))
    (fun sp hsp => trodAll_mk2 (trod_later at_laid (by kernel_rfl) (of_decide_eq_true (by kernel_rfl)) h0 hw hlt (fun x hx => hsp x (by simpa using hx)) (by simp +contextual)) (trod_later at_laid (by kernel_rfl) (of_decide_eq_true (by kernel_rfl)) h1 hw hlt (fun x hx => hsp x (by simpa using hx)) (by simp +contextual)))
    (fun _ _ => rfl) (by simp) hw (ok_one (by kernel_rfl) rfl (okWide_bool_mk Tryz.underlying4 true))⟩

theorem apart_fact0 : (Rows.spillApartRow.wf (OpenSpec.ofChange Rows.spillApartSpec)) = true := by kernel_rfl
theorem apart_fact3 : (Tryz.f4.params.all (Tryz.prog.readableRec ·)) = true := by kernel_rfl
theorem apart_fact4 : (namedTie Tryz.prog Rows.spillApartRow.named Rows.spillApartSpec.vars) = true := by kernel_rfl
theorem apart_fact5 : ((Rows.spillApartRow.stops == [])) = true := by kernel_rfl
theorem apart_fact6 : ((Tryz.prog.stops == [])) = true := by kernel_rfl
theorem apart_fact7 : ((Rows.spillApartRow.knobs == [])) = true := by kernel_rfl
theorem apart_fact8 : ((Tryz.prog.stopKnobs == [])) = true := by kernel_rfl
theorem apart_fact9 : ((Rows.spillApartRow.inPlace == Tryz.prog.inPlace 4)) = true := by kernel_rfl
theorem apart_fact10 : ((Rows.spillApartRow.unfollowed == Tryz.prog.unfollowed 4)) = true := by kernel_rfl
theorem apart_fact11 : ((Rows.spillApartRow.recurses == Tryz.prog.recurses 4)) = true := by kernel_rfl
theorem apart_fact12 : ((Rows.spillApartRow.named == Tryz.prog.varsNamed 4)) = true := by kernel_rfl
theorem apart_fact13 : ((Rows.spillApartRow.maps == (Tryz.f4.params.toList ++ Rows.spillApartSpec.plain.varTypes Tryz.prog).any (Tryz.prog.mapsRec ·))) = true := by kernel_rfl
theorem apart_fact14 : ((Rows.spillApartRow.ifaces == (Tryz.f4.params.toList ++ Rows.spillApartSpec.plain.varTypes Tryz.prog).any (Tryz.prog.ifacesRec ·))) = true := by kernel_rfl
theorem apart_fact15 : ((Rows.spillApartRow.mapsOut == Tryz.prog.mapsAmong Tryz.f4.resultTypes.toList)) = true := by kernel_rfl
theorem apart_fact16 : ((Rows.spillApartRow.loops == (Tryz.f4.params.toList ++ Rows.spillApartSpec.plain.varTypes Tryz.prog).any (Tryz.prog.loopsFrom ·))) = true := by kernel_rfl
theorem apart_fact17 : ((Rows.spillApartRow.wideKeys == (Tryz.f4.params.toList ++ Rows.spillApartSpec.plain.varTypes Tryz.prog ++ Tryz.f4.resultTypes.toList).any (Tryz.prog.wideKeysFrom ·))) = true := by kernel_rfl
theorem apart_fact18 : (Rows.spillApartSpec.vars.all (Tryz.prog.varReadable ·)) = true := by kernel_rfl
theorem apart_fact19 : (Tryz.f4.resultTypes.all (fun t => Tryz.prog.readableRec t && decide (t < Tryz.prog.types.size))) = true := by kernel_rfl
theorem apart_fact20 : ((Rows.spillApartRow.ifacesOut == Tryz.f4.resultTypes.toList.any (Tryz.prog.ifacesRec ·))) = true := by kernel_rfl
theorem apart_fact21 : ((Rows.spillApartRow.loopsOut == Tryz.f4.resultTypes.toList.any (Tryz.prog.loopsFrom ·))) = true := by kernel_rfl
theorem apart_fact22 : ((Rows.spillApartRow.plainKeys == Tryz.prog.plainKeys)) = true := by kernel_rfl
theorem apart_fact23 : (Rows.spillApartRow.shortTexts.isNone) = true := by kernel_rfl
theorem apart_fact29 : ((Rows.spillApartRow.pinned == Rows.spillApartRow.pinnedBy)) = true := by kernel_rfl
theorem apart_fact30 : ((Rows.spillApartRow.veiled == (Tryz.f4.params.toList ++ Rows.spillApartSpec.plain.varTypes Tryz.prog ++ Tryz.f4.resultTypes.toList).any (Tryz.prog.veiledRec ·))) = true := by kernel_rfl
theorem apart_fact31 : (Rows.spillApartRow.veiledFits Tryz.prog Tryz.f4.params.toList (Tryz.f4.params.toList ++ Rows.spillApartSpec.plain.varTypes Tryz.prog ++ Tryz.f4.resultTypes.toList)) = true := by kernel_rfl
theorem apart_facts : joinedFacts Tryz.prog 4 Tryz.f4 Rows.spillApartSpec Rows.spillApartRow = true := by
  unfold joinedFacts
  exact (and_both (and_both (and_both (and_both (and_both (and_both (and_both (and_both (and_both (and_both (and_both (and_both (and_both (and_both (and_both (and_both (and_both (and_both (and_both (and_both (and_both (and_both (and_both (and_both (and_both (and_both (and_both (and_both (and_both (and_both (and_both apart_fact0 laid_out) maps_rowed) apart_fact3) apart_fact4) apart_fact5) apart_fact6) apart_fact7) apart_fact8) apart_fact9) apart_fact10) apart_fact11) apart_fact12) apart_fact13) apart_fact14) apart_fact15) apart_fact16) apart_fact17) apart_fact18) apart_fact19) apart_fact20) apart_fact21) apart_fact22) apart_fact23) stops_heard) may_enter) lifts_final) make_is) (by kernel_rfl)) apart_fact29) apart_fact30) apart_fact31)
theorem apart_named : Tryz.prog.funcNamed "tabula/tabulalaw14.SpillApart" = some 4 := by kernel_rfl
theorem apart_byText : Rows.spillApartRow.wfByText (OpenSpec.ofChange Rows.spillApartSpec) = true := by kernel_rfl

theorem spillApart_row : Rows.SpillApartSaid :=
  OpenClaim.holds_of_wide 4 Tryz.f4 rfl rfl rfl rfl rfl rfl rfl ⟨rfl, rfl, rfl, rfl, rfl⟩ rfl rfl rfl rfl rfl apart_named Tryz.func4 apart_facts
    (of_decide_eq_true (by kernel_rfl)) (by unfold Func.isWrapper; first | (rw [if_pos (by decide +kernel)]; kernel_rfl) | (rw [if_neg (by decide +kernel)]; exact ⟨rfl, rfl⟩))
    (fun os started H enc _ => apart_lifted os started H enc)

theorem spillApart_holds : Rows.SpillApartCardSaid :=
  Claim7.holds_tied_plain_at .later [] [.data, .data, .data, .data, .sentinel, .sentinel, .data, .widerDeep, .pinned] true (true, "c85f2c943e6e02ad8e55fb0b6724a11ed4d36683a9ef96ef3ceb05c9857922f3") true spillApart_row (fun _ h => by cases h) apart_byText (fun _ h => by cases h) spillApart_row_tie rfl ⟨rfl, rfl⟩ main_is rfl
    (fun f fn hf hfn => by
      obtain rfl : f = 4 := Option.some.inj (apart_named.symm.trans hf) |>.symm
      obtain rfl : fn = Tryz.f4 := (Option.some.inj (Tryz.func4.symm.trans hfn)).symm
      exact ⟨looks_on, fun j t ht => by
        rw [Tryz.params4] at ht
        have hm : t ∈ [22, 23] := by simpa using Array.mem_of_getElem? ht
        have hall : ([22, 23].all fun u => !Tryz.prog.wantsStandIn u) = true := by kernel_rfl
        exact (show Tryz.prog.wantsStandIn t = false by simpa using List.all_eq_true.1 hall t hm)⟩)
    (goesBy_none rfl no_goes)
end Go.Proofs.YtmmknjpcffaidaaGreatDoor
