/- tabulalaw14.SpillMore answers true at whatever arguments, and leaves them as they read before: the row and its tied card. No condition but the variables that the row lists. -/
import Derived.Test.YtmmknjpcffaidaaGreatDoorSpLaid
import Derived.Test.YtmmknjpcffaidaaGreatDoorSpFacts
import Derived.Test.YtmmknjpcffaidaaGreatDoorSpOpenS
import Derived.Test.YtmmknjpcffaidaaGreatDoorSpMore
import Derived.SevenTiedAt
import Derived.Stop.Joined
namespace Go.Proofs.YtmmknjpcffaidaaGreatDoor
open Go.ChangeShapes Go.WideShapes Go.ChangeAt Go.RowKit Go.Lib

set_option maxRecDepth 100000 in
theorem more_lifted (os : Os) (started : os.Started) (H : Type) (enc : TypeId × Value → H) :
    ReturnsInHanded {} Tryz.checked os 6 .any (fun w args => (Rows.spillMoreSpec.pre enc Tryz.prog Tryz.f6 Rows.spillMoreRow.domain false w args ∧ laidMetH Tryz.prog laidList w) ∧ sizedMet enc Tryz.prog Tryz.f6 (OpenSpec.ofChange Rows.spillMoreSpec) false w args)
      (Rows.spillMoreSpec.post enc Tryz.prog Tryz.f6 false true false false) := by
  refine returnsInHanded_of_change_and (C := Tryz.checked) (X := fun w _ => laidMetH Tryz.prog laidList w) (fun _ _ _ hh h => h.of_heap hh) Tryz.own started (by kernel_rfl) Tryz.func6
    (ChangeSpec.witness_shaped (enc := enc) (C := Tryz.checked) (os := os) (X := fun w _ => laidMetH Tryz.prog laidList w) false (World.laidAll Tryz.prog os laidList) #[.slice none 0 0, .slice none 0 0, .int .i64 0] 8 (World.laidAll_os _ _ _)
      (laid_shaped os _) (by kernel_rfl) (by kernel_rfl) (by kernel_rfl) (laid_met os _)) ?_
  intro W base args ds gs before hval0 hW hcnd _ hL _
  have hval : ∀ (j : Nat) t v, Tryz.f6.params[j]? = some t → args[j]? = some v → Value.okWide Tryz.prog W .any base t v := hval0
  have hW' := hW
  obtain ⟨p, q, hA0, hV, rfl, hfz, hnd⟩ := hW
  have hA : DataW.TrodAll enc Tryz.prog W 0 (fun _ => true) true Tryz.f6.params.toList args.toList ds p := hA0
  rw [Tryz.params6] at hA hval
  obtain ⟨v0, v1, v2, d0, d1, d2, p0, p1, p2, rfl, rfl, rfl, h0, h1, h2⟩ := trodAll_three hA
  obtain ⟨rfl, rfl⟩ := trodVars_none hV
  obtain ⟨l0, a0, s0⟩ := ats_opened h0 (by have := hval 0 22 v0 rfl rfl; exact cells_slice Tryz.underlying22 this)
  obtain ⟨l1, a1, s1⟩ := pairs_opened h1 (by have := hval 1 23 v1 rfl rfl; exact cells_slice Tryz.underlying23 this)
  obtain ⟨x2, rfl, rfl, rfl, w2⟩ := open_int Tryz.underlying3 (hval 2 3 v2 rfl rfl) h2
  clear hA0 hval0
  simp only [List.append_nil] at hW'
  have hlt : ∀ x ∈ p0 ++ p1, x.block < W.heap.size := fun x hx => hW'.lt x (by simpa using hx)
  refine (more_any W (tabs_of_laid hL) v0 v1 l0 l1 x2 a0 s0 a1 s1 (wfInt w2).1 (wfInt w2).2).mono fun e W' ⟨he, hw⟩ => ?_
  subst he
  exact ⟨_, rfl, post_of_below (pa := p0 ++ (p1 ++ ([]))) (pv := []) hW' (fun _ _ _ => trodAll_mk1 (shut_bool Tryz.underlying4 true))
    (fun sp hsp => trodAll_mk3 (trod_later at_laid (by kernel_rfl) (of_decide_eq_true (by kernel_rfl)) h0 hw hlt (fun x hx => hsp x (by simpa using hx)) (by simp +contextual)) (trod_later at_laid (by kernel_rfl) (of_decide_eq_true (by kernel_rfl)) h1 hw hlt (fun x hx => hsp x (by simpa using hx)) (by simp +contextual)) (shut_int Tryz.underlying3 w2))
    (fun _ _ => rfl) (by simp) hw (ok_one (by kernel_rfl) rfl (okWide_bool_mk Tryz.underlying4 true))⟩

theorem more_fact0 : (Rows.spillMoreRow.wf (OpenSpec.ofChange Rows.spillMoreSpec)) = true := by kernel_rfl
theorem more_fact3 : (Tryz.f6.params.all (Tryz.prog.readableRec ·)) = true := by kernel_rfl
theorem more_fact4 : (namedTie Tryz.prog Rows.spillMoreRow.named Rows.spillMoreSpec.vars) = true := by kernel_rfl
theorem more_fact5 : ((Rows.spillMoreRow.stops == [])) = true := by kernel_rfl
theorem more_fact6 : ((Tryz.prog.stops == [])) = true := by kernel_rfl
theorem more_fact7 : ((Rows.spillMoreRow.knobs == [])) = true := by kernel_rfl
theorem more_fact8 : ((Tryz.prog.stopKnobs == [])) = true := by kernel_rfl
theorem more_fact9 : ((Rows.spillMoreRow.inPlace == Tryz.prog.inPlace 6)) = true := by kernel_rfl
theorem more_fact10 : ((Rows.spillMoreRow.unfollowed == Tryz.prog.unfollowed 6)) = true := by kernel_rfl
theorem more_fact11 : ((Rows.spillMoreRow.recurses == Tryz.prog.recurses 6)) = true := by kernel_rfl
theorem more_fact12 : ((Rows.spillMoreRow.named == Tryz.prog.varsNamed 6)) = true := by kernel_rfl
theorem more_fact13 : ((Rows.spillMoreRow.maps == (Tryz.f6.params.toList ++ Rows.spillMoreSpec.plain.varTypes Tryz.prog).any (Tryz.prog.mapsRec ·))) = true := by kernel_rfl
theorem more_fact14 : ((Rows.spillMoreRow.ifaces == (Tryz.f6.params.toList ++ Rows.spillMoreSpec.plain.varTypes Tryz.prog).any (Tryz.prog.ifacesRec ·))) = true := by kernel_rfl
theorem more_fact15 : ((Rows.spillMoreRow.mapsOut == Tryz.prog.mapsAmong Tryz.f6.resultTypes.toList)) = true := by kernel_rfl
theorem more_fact16 : ((Rows.spillMoreRow.loops == (Tryz.f6.params.toList ++ Rows.spillMoreSpec.plain.varTypes Tryz.prog).any (Tryz.prog.loopsFrom ·))) = true := by kernel_rfl
theorem more_fact17 : ((Rows.spillMoreRow.wideKeys == (Tryz.f6.params.toList ++ Rows.spillMoreSpec.plain.varTypes Tryz.prog ++ Tryz.f6.resultTypes.toList).any (Tryz.prog.wideKeysFrom ·))) = true := by kernel_rfl
theorem more_fact18 : (Rows.spillMoreSpec.vars.all (Tryz.prog.varReadable ·)) = true := by kernel_rfl
theorem more_fact19 : (Tryz.f6.resultTypes.all (fun t => Tryz.prog.readableRec t && decide (t < Tryz.prog.types.size))) = true := by kernel_rfl
theorem more_fact20 : ((Rows.spillMoreRow.ifacesOut == Tryz.f6.resultTypes.toList.any (Tryz.prog.ifacesRec ·))) = true := by kernel_rfl
theorem more_fact21 : ((Rows.spillMoreRow.loopsOut == Tryz.f6.resultTypes.toList.any (Tryz.prog.loopsFrom ·))) = true := by kernel_rfl
theorem more_fact22 : ((Rows.spillMoreRow.plainKeys == Tryz.prog.plainKeys)) = true := by kernel_rfl
theorem more_fact23 : (Rows.spillMoreRow.shortTexts.isNone) = true := by kernel_rfl
theorem more_fact29 : ((Rows.spillMoreRow.pinned == Rows.spillMoreRow.pinnedBy)) = true := by kernel_rfl
theorem more_fact30 : ((Rows.spillMoreRow.veiled == (Tryz.f6.params.toList ++ Rows.spillMoreSpec.plain.varTypes Tryz.prog ++ Tryz.f6.resultTypes.toList).any (Tryz.prog.veiledRec ·))) = true := by kernel_rfl
theorem more_fact31 : (Rows.spillMoreRow.veiledFits Tryz.prog Tryz.f6.params.toList (Tryz.f6.params.toList ++ Rows.spillMoreSpec.plain.varTypes Tryz.prog ++ Tryz.f6.resultTypes.toList)) = true := by kernel_rfl
theorem more_facts : joinedFacts Tryz.prog 6 Tryz.f6 Rows.spillMoreSpec Rows.spillMoreRow = true := by
  unfold joinedFacts
  exact (and_both (and_both (and_both (and_both (and_both (and_both (and_both (and_both (and_both (and_both (and_both (and_both (and_both (and_both (and_both (and_both (and_both (and_both (and_both (and_both (and_both (and_both (and_both (and_both (and_both (and_both (and_both (and_both (and_both (and_both (and_both more_fact0 laid_out) maps_rowed) more_fact3) more_fact4) more_fact5) more_fact6) more_fact7) more_fact8) more_fact9) more_fact10) more_fact11) more_fact12) more_fact13) more_fact14) more_fact15) more_fact16) more_fact17) more_fact18) more_fact19) more_fact20) more_fact21) more_fact22) more_fact23) stops_heard) may_enter) lifts_final) make_is) (by kernel_rfl)) more_fact29) more_fact30) more_fact31)
theorem more_named : Tryz.prog.funcNamed "tabula/tabulalaw14.SpillMore" = some 6 := by kernel_rfl
theorem more_byText : Rows.spillMoreRow.wfByText (OpenSpec.ofChange Rows.spillMoreSpec) = true := by kernel_rfl

theorem spillMore_row : Rows.SpillMoreSaid :=
  OpenClaim.holds_of_wide 6 Tryz.f6 rfl rfl rfl rfl rfl rfl rfl ⟨rfl, rfl, rfl, rfl, rfl⟩ rfl rfl rfl rfl rfl more_named Tryz.func6 more_facts
    (of_decide_eq_true (by kernel_rfl)) (by unfold Func.isWrapper; first | (rw [if_pos (by decide +kernel)]; kernel_rfl) | (rw [if_neg (by decide +kernel)]; exact ⟨rfl, rfl⟩))
    (fun os started H enc _ => more_lifted os started H enc)

theorem spillMore_holds : Rows.SpillMoreCardSaid :=
  Claim7.holds_tied_plain_at .later [] [.data, .data, .data, .data, .sentinel, .sentinel, .data, .widerDeep, .pinned] true (true, "c85f2c943e6e02ad8e55fb0b6724a11ed4d36683a9ef96ef3ceb05c9857922f3") true spillMore_row (fun _ h => by cases h) more_byText (fun _ h => by cases h) spillMore_row_tie rfl ⟨rfl, rfl⟩ main_is rfl
    (fun f fn hf hfn => by
      obtain rfl : f = 6 := Option.some.inj (more_named.symm.trans hf) |>.symm
      obtain rfl : fn = Tryz.f6 := (Option.some.inj (Tryz.func6.symm.trans hfn)).symm
      exact ⟨looks_on, fun j t ht => by
        rw [Tryz.params6] at ht
        have hm : t ∈ [22, 23, 3] := by simpa using Array.mem_of_getElem? ht
        have hall : ([22, 23, 3].all fun u => !Tryz.prog.wantsStandIn u) = true := by kernel_rfl
        exact (show Tryz.prog.wantsStandIn t = false by simpa using List.all_eq_true.1 hall t hm)⟩)
    (goesBy_none rfl no_goes)
end Go.Proofs.YtmmknjpcffaidaaGreatDoor
