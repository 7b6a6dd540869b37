/- tabulalaw14.SpillCover answers true at whatever arguments, and leaves them as they read before: the row and its tied card. No condition but the variables that the row lists. -/
import Derived.Test.YtmmknjpcffaidaaGreatDoorSpLaid
import Derived.Test.YtmmknjpcffaidaaGreatDoorSpFacts
import Derived.Test.YtmmknjpcffaidaaGreatDoorSpOpenS
import Derived.Test.YtmmknjpcffaidaaGreatDoorSpCoverL
import Derived.SevenTiedAt
import Derived.Stop.Joined
namespace Go.Proofs.YtmmknjpcffaidaaGreatDoor
open Go.ChangeShapes Go.WideShapes Go.ChangeAt Go.RowKit Go.Lib

set_option maxRecDepth 100000 in
theorem cover_lifted (os : Os) (started : os.Started) (H : Type) (enc : TypeId × Value → H) :
    ReturnsInHanded {} Tryz.checked os 8 .any (fun w args => (Rows.spillCoverSpec.pre enc Tryz.prog Tryz.f8 Rows.spillCoverRow.domain false w args ∧ laidMetH Tryz.prog laidList w) ∧ sizedMet enc Tryz.prog Tryz.f8 (OpenSpec.ofChange Rows.spillCoverSpec) false w args)
      (Rows.spillCoverSpec.post enc Tryz.prog Tryz.f8 false true false false) := by
  refine returnsInHanded_of_change_and (C := Tryz.checked) (X := fun w _ => laidMetH Tryz.prog laidList w) (fun _ _ _ hh h => h.of_heap hh) Tryz.own started (by kernel_rfl) Tryz.func8
    (ChangeSpec.witness_shaped (enc := enc) (C := Tryz.checked) (os := os) (X := fun w _ => laidMetH Tryz.prog laidList w) false (World.laidAll Tryz.prog os laidList) #[.slice none 0 0, .slice none 0 0, .agg #[.int .i64 0, .int .i64 0, .int .i64 0]] 8 (World.laidAll_os _ _ _)
      (laid_shaped os _) (by kernel_rfl) (by kernel_rfl) (by kernel_rfl) (laid_met os _)) ?_
  intro W base args ds gs before hval0 hW hcnd _ hL _
  have hval : ∀ (j : Nat) t v, Tryz.f8.params[j]? = some t → args[j]? = some v → Value.okWide Tryz.prog W .any base t v := hval0
  have hW' := hW
  obtain ⟨p, q, hA0, hV, rfl, hfz, hnd⟩ := hW
  have hA : DataW.TrodAll enc Tryz.prog W 0 (fun _ => true) true Tryz.f8.params.toList args.toList ds p := hA0
  rw [Tryz.params8] at hA hval
  obtain ⟨v0, v1, v2, d0, d1, d2, p0, p1, p2, rfl, rfl, rfl, h0, h1, h2⟩ := trodAll_three hA
  obtain ⟨rfl, rfl⟩ := trodVars_none hV
  obtain ⟨l0, a0, s0⟩ := ats_opened h0 (by have := hval 0 22 v0 rfl rfl; exact cells_slice Tryz.underlying22 this)
  obtain ⟨l1, a1, s1⟩ := pairs_opened h1 (by have := hval 1 23 v1 rfl rfl; exact cells_slice Tryz.underlying23 this)
  obtain ⟨x2, rfl, s2⟩ := at_opened h2 (hval 2 25 v2 rfl rfl)
  clear hA0 hval0
  simp only [List.append_nil] at hW'
  have hlt : ∀ x ∈ p0 ++ p1 ++ p2, x.block < W.heap.size := fun x hx => hW'.lt x (by simpa using hx)
  refine (coverL_any W (tabs_of_laid hL) v0 v1 l0 l1 x2 a0 s0 a1 s1 s2).mono fun e W' ⟨he, hw⟩ => ?_
  subst he
  exact ⟨_, rfl, post_of_below (pa := p0 ++ (p1 ++ (p2))) (pv := []) hW' (fun _ _ _ => trodAll_mk1 (shut_bool Tryz.underlying4 true))
    (fun sp hsp => trodAll_mk3 (trod_later at_laid (by kernel_rfl) (of_decide_eq_true (by kernel_rfl)) h0 hw hlt (fun x hx => hsp x (by simpa using hx)) (by simp +contextual)) (trod_later at_laid (by kernel_rfl) (of_decide_eq_true (by kernel_rfl)) h1 hw hlt (fun x hx => hsp x (by simpa using hx)) (by simp +contextual)) (trod_later at_laid (by kernel_rfl) (of_decide_eq_true (by kernel_rfl)) h2 hw hlt (fun x hx => hsp x (by simpa using hx)) (by simp +contextual)))
    (fun _ _ => rfl) (by simp) hw (ok_one (by kernel_rfl) rfl (okWide_bool_mk Tryz.underlying4 true))⟩

theorem cover_fact0 : (Rows.spillCoverRow.wf (OpenSpec.ofChange Rows.spillCoverSpec)) = true := by kernel_rfl
theorem cover_fact3 : (Tryz.f8.params.all (Tryz.prog.readableRec ·)) = true := by kernel_rfl
theorem cover_fact4 : (namedTie Tryz.prog Rows.spillCoverRow.named Rows.spillCoverSpec.vars) = true := by kernel_rfl
theorem cover_fact5 : ((Rows.spillCoverRow.stops == [])) = true := by kernel_rfl
theorem cover_fact6 : ((Tryz.prog.stops == [])) = true := by kernel_rfl
theorem cover_fact7 : ((Rows.spillCoverRow.knobs == [])) = true := by kernel_rfl
theorem cover_fact8 : ((Tryz.prog.stopKnobs == [])) = true := by kernel_rfl
theorem cover_fact9 : ((Rows.spillCoverRow.inPlace == Tryz.prog.inPlace 8)) = true := by kernel_rfl
theorem cover_fact10 : ((Rows.spillCoverRow.unfollowed == Tryz.prog.unfollowed 8)) = true := by kernel_rfl
theorem cover_fact11 : ((Rows.spillCoverRow.recurses == Tryz.prog.recurses 8)) = true := by kernel_rfl
theorem cover_fact12 : ((Rows.spillCoverRow.named == Tryz.prog.varsNamed 8)) = true := by kernel_rfl
theorem cover_fact13 : ((Rows.spillCoverRow.maps == (Tryz.f8.params.toList ++ Rows.spillCoverSpec.plain.varTypes Tryz.prog).any (Tryz.prog.mapsRec ·))) = true := by kernel_rfl
theorem cover_fact14 : ((Rows.spillCoverRow.ifaces == (Tryz.f8.params.toList ++ Rows.spillCoverSpec.plain.varTypes Tryz.prog).any (Tryz.prog.ifacesRec ·))) = true := by kernel_rfl
theorem cover_fact15 : ((Rows.spillCoverRow.mapsOut == Tryz.prog.mapsAmong Tryz.f8.resultTypes.toList)) = true := by kernel_rfl
theorem cover_fact16 : ((Rows.spillCoverRow.loops == (Tryz.f8.params.toList ++ Rows.spillCoverSpec.plain.varTypes Tryz.prog).any (Tryz.prog.loopsFrom ·))) = true := by kernel_rfl
theorem cover_fact17 : ((Rows.spillCoverRow.wideKeys == (Tryz.f8.params.toList ++ Rows.spillCoverSpec.plain.varTypes Tryz.prog ++ Tryz.f8.resultTypes.toList).any (Tryz.prog.wideKeysFrom ·))) = true := by kernel_rfl
theorem cover_fact18 : (Rows.spillCoverSpec.vars.all (Tryz.prog.varReadable ·)) = true := by kernel_rfl
theorem cover_fact19 : (Tryz.f8.resultTypes.all (fun t => Tryz.prog.readableRec t && decide (t < Tryz.prog.types.size))) = true := by kernel_rfl
theorem cover_fact20 : ((Rows.spillCoverRow.ifacesOut == Tryz.f8.resultTypes.toList.any (Tryz.prog.ifacesRec ·))) = true := by kernel_rfl
theorem cover_fact21 : ((Rows.spillCoverRow.loopsOut == Tryz.f8.resultTypes.toList.any (Tryz.prog.loopsFrom ·))) = true := by kernel_rfl
theorem cover_fact22 : ((Rows.spillCoverRow.plainKeys == Tryz.prog.plainKeys)) = true := by kernel_rfl
theorem cover_fact23 : (Rows.spillCoverRow.shortTexts.isNone) = true := by kernel_rfl
theorem cover_fact29 : ((Rows.spillCoverRow.pinned == Rows.spillCoverRow.pinnedBy)) = true := by kernel_rfl
theorem cover_fact30 : ((Rows.spillCoverRow.veiled == (Tryz.f8.params.toList ++ Rows.spillCoverSpec.plain.varTypes Tryz.prog ++ Tryz.f8.resultTypes.toList).any (Tryz.prog.veiledRec ·))) = true := by kernel_rfl
theorem cover_fact31 : (Rows.spillCoverRow.veiledFits Tryz.prog Tryz.f8.params.toList (Tryz.f8.params.toList ++ Rows.spillCoverSpec.plain.varTypes Tryz.prog ++ Tryz.f8.resultTypes.toList)) = true := by kernel_rfl
theorem cover_facts : joinedFacts Tryz.prog 8 Tryz.f8 Rows.spillCoverSpec Rows.spillCoverRow = true := by
  unfold joinedFacts
  exact (and_both (and_both (and_both (and_both (and_both (and_both (and_both (and_both (and_both (and_both (and_both (and_both (and_both (and_both (and_both (and_both (and_both (and_both (and_both (and_both (and_both (and_both (and_both (and_both (and_both (and_both (and_both (and_both (and_both (and_both (and_both cover_fact0 laid_out) maps_rowed) cover_fact3) cover_fact4) cover_fact5) cover_fact6) cover_fact7) cover_fact8) cover_fact9) cover_fact10) cover_fact11) cover_fact12) cover_fact13) cover_fact14) cover_fact15) cover_fact16) cover_fact17) cover_fact18) cover_fact19) cover_fact20) cover_fact21) cover_fact22) cover_fact23) stops_heard) may_enter) lifts_final) make_is) (by kernel_rfl)) cover_fact29) cover_fact30) cover_fact31)
theorem cover_named : Tryz.prog.funcNamed "tabula/tabulalaw14.SpillCover" = some 8 := by kernel_rfl
theorem cover_byText : Rows.spillCoverRow.wfByText (OpenSpec.ofChange Rows.spillCoverSpec) = true := by kernel_rfl

theorem spillCover_row : Rows.SpillCoverSaid :=
  OpenClaim.holds_of_wide 8 Tryz.f8 rfl rfl rfl rfl rfl rfl rfl ⟨rfl, rfl, rfl, rfl, rfl⟩ rfl rfl rfl rfl rfl cover_named Tryz.func8 cover_facts
    (of_decide_eq_true (by kernel_rfl)) (by unfold Func.isWrapper; first | (rw [if_pos (by decide +kernel)]; kernel_rfl) | (rw [if_neg (by decide +kernel)]; exact ⟨rfl, rfl⟩))
    (fun os started H enc _ => cover_lifted os started H enc)

theorem spillCover_holds : Rows.SpillCoverCardSaid :=
  Claim7.holds_tied_plain_at .later [] [.data, .data, .data, .data, .sentinel, .sentinel, .data, .widerDeep, .pinned] true (true, "c85f2c943e6e02ad8e55fb0b6724a11ed4d36683a9ef96ef3ceb05c9857922f3") true spillCover_row (fun _ h => by cases h) cover_byText (fun _ h => by cases h) spillCover_row_tie rfl ⟨rfl, rfl⟩ main_is rfl
    (fun f fn hf hfn => by
      obtain rfl : f = 8 := Option.some.inj (cover_named.symm.trans hf) |>.symm
      obtain rfl : fn = Tryz.f8 := (Option.some.inj (Tryz.func8.symm.trans hfn)).symm
      exact ⟨looks_on, fun j t ht => by
        rw [Tryz.params8] at ht
        have hm : t ∈ [22, 23, 25] := by simpa using Array.mem_of_getElem? ht
        have hall : ([22, 23, 25].all fun u => !Tryz.prog.wantsStandIn u) = true := by kernel_rfl
        exact (show Tryz.prog.wantsStandIn t = false by simpa using List.all_eq_true.1 hall t hm)⟩)
    (goesBy_none rfl no_goes)
end Go.Proofs.YtmmknjpcffaidaaGreatDoor
