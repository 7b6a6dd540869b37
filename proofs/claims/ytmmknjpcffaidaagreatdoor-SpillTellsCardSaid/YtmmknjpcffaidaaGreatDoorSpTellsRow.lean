/- tabulalaw14.SpillTells answers true at whatever arguments, and leaves them as they read before: the row and its tied card. No condition but the variables that the row lists. -/
import Derived.Test.YtmmknjpcffaidaaGreatDoorSpLaid
import Derived.Test.YtmmknjpcffaidaaGreatDoorSpFacts
import Derived.Test.YtmmknjpcffaidaaGreatDoorSpOpenS
import Derived.Test.YtmmknjpcffaidaaGreatDoorSpArgs
import Derived.Test.YtmmknjpcffaidaaGreatDoorSpTells
import Derived.SevenTiedAt
import Derived.Stop.Joined
namespace Go.Proofs.YtmmknjpcffaidaaGreatDoor
open Go.ChangeShapes Go.WideShapes Go.ChangeAt Go.RowKit Go.Lib

set_option maxRecDepth 100000 in
theorem tells_lifted (os : Os) (started : os.Started) (H : Type) (enc : TypeId × Value → H) :
    ReturnsInHanded {} Tryz.checked os 3 .any (fun w args => (Rows.spillTellsSpec.pre enc Tryz.prog Tryz.f3 Rows.spillTellsRow.domain false w args ∧ laidMetH Tryz.prog laidList w) ∧ sizedMet enc Tryz.prog Tryz.f3 (OpenSpec.ofChange Rows.spillTellsSpec) false w args)
      (Rows.spillTellsSpec.post enc Tryz.prog Tryz.f3 false true false false) := by
  refine returnsInHanded_of_change_and (C := Tryz.checked) (X := fun w _ => laidMetH Tryz.prog laidList w) (fun _ _ _ hh h => h.of_heap hh) Tryz.own started (by kernel_rfl) Tryz.func3
    (ChangeSpec.witness_shaped (enc := enc) (C := Tryz.checked) (os := os) (X := fun w _ => laidMetH Tryz.prog laidList w) false (World.laidAll Tryz.prog os laidList) #[.slice none 0 0, .slice none 0 0, .int .i64 0, .agg #[.int .i64 0, .int .i64 0, .int .i64 0, .int .i64 0, .int .i64 0], .slice none 0 0, .agg #[.int .i64 0, .int .i64 0, .int .i64 0]] 8 (World.laidAll_os _ _ _)
      (laid_shaped os _) (by kernel_rfl) (by kernel_rfl) (by kernel_rfl) (laid_met os _)) ?_
  intro W base args ds gs before hval0 hW hcnd _ hL _
  have hval : ∀ (j : Nat) t v, Tryz.f3.params[j]? = some t → args[j]? = some v → Value.okWide Tryz.prog W .any base t v := hval0
  have hW' := hW
  obtain ⟨p, q, hA0, hV, rfl, hfz, hnd⟩ := hW
  have hA : DataW.TrodAll enc Tryz.prog W 0 (fun _ => true) true Tryz.f3.params.toList args.toList ds p := hA0
  rw [Tryz.params3] at hA hval
  obtain ⟨v0, v1, v2, v3, v4, v5, d0, d1, d2, d3, d4, d5, p0, p1, p2, p3, p4, p5, rfl, rfl, rfl, h0, h1, h2, h3, h4, h5⟩ := trodAll_six hA
  obtain ⟨rfl, rfl⟩ := trodVars_none hV
  obtain ⟨l0, a0, s0⟩ := ats_opened h0 (by have := hval 0 22 v0 rfl rfl; exact cells_slice Tryz.underlying22 this)
  obtain ⟨l1, a1, s1⟩ := pairs_opened h1 (by have := hval 1 23 v1 rfl rfl; exact cells_slice Tryz.underlying23 this)
  obtain ⟨x2, rfl, rfl, rfl, w2⟩ := open_int Tryz.underlying3 (hval 2 3 v2 rfl rfl) h2
  obtain ⟨x3, rfl, s3⟩ := sp_opened h3 (hval 3 27 v3 rfl rfl)
  obtain ⟨l4, a4, s4, c4⟩ := sps_opened h4 (by have := hval 4 28 v4 rfl rfl; exact cells_slice Tryz.underlying28 this)
  obtain ⟨x5, rfl, s5⟩ := at_opened h5 (hval 5 25 v5 rfl rfl)
  clear hA0 hval0
  simp only [List.append_nil] at hW'
  have hlt : ∀ x ∈ p0 ++ p1 ++ p3 ++ p4 ++ p5, x.block < W.heap.size := fun x hx => hW'.lt x (by simpa using hx)
  refine (tells_any W (tabs_of_laid hL) v0 v1 v4 l0 l1 x2 x3 l4 x5 a0 s0 a1 s1 (wfInt w2).1 (wfInt w2).2 s3 a4 s4 c4 s5).mono fun e W' ⟨he, hw⟩ => ?_
  subst he
  exact ⟨_, rfl, post_of_below (pa := p0 ++ (p1 ++ ([] ++ (p3 ++ (p4 ++ (p5)))))) (pv := []) hW' (fun _ _ _ => trodAll_mk1 (shut_bool Tryz.underlying4 true))
    (fun sp hsp => trodAll_mk6 (trod_later at_laid (by kernel_rfl) (of_decide_eq_true (by kernel_rfl)) h0 hw hlt (fun x hx => hsp x (by simpa using hx)) (by simp +contextual)) (trod_later at_laid (by kernel_rfl) (of_decide_eq_true (by kernel_rfl)) h1 hw hlt (fun x hx => hsp x (by simpa using hx)) (by simp +contextual)) (shut_int Tryz.underlying3 w2) (trod_later at_laid (by kernel_rfl) (of_decide_eq_true (by kernel_rfl)) h3 hw hlt (fun x hx => hsp x (by simpa using hx)) (by simp +contextual)) (trod_later at_laid (by kernel_rfl) (of_decide_eq_true (by kernel_rfl)) h4 hw hlt (fun x hx => hsp x (by simpa using hx)) (by simp +contextual)) (trod_later at_laid (by kernel_rfl) (of_decide_eq_true (by kernel_rfl)) h5 hw hlt (fun x hx => hsp x (by simpa using hx)) (by simp +contextual)))
    (fun _ _ => rfl) (by simp) hw (ok_one (by kernel_rfl) rfl (okWide_bool_mk Tryz.underlying4 true))⟩

theorem tells_fact0 : (Rows.spillTellsRow.wf (OpenSpec.ofChange Rows.spillTellsSpec)) = true := by kernel_rfl
theorem tells_fact3 : (Tryz.f3.params.all (Tryz.prog.readableRec ·)) = true := by kernel_rfl
theorem tells_fact4 : (namedTie Tryz.prog Rows.spillTellsRow.named Rows.spillTellsSpec.vars) = true := by kernel_rfl
theorem tells_fact5 : ((Rows.spillTellsRow.stops == [])) = true := by kernel_rfl
theorem tells_fact6 : ((Tryz.prog.stops == [])) = true := by kernel_rfl
theorem tells_fact7 : ((Rows.spillTellsRow.knobs == [])) = true := by kernel_rfl
theorem tells_fact8 : ((Tryz.prog.stopKnobs == [])) = true := by kernel_rfl
theorem tells_fact9 : ((Rows.spillTellsRow.inPlace == Tryz.prog.inPlace 3)) = true := by kernel_rfl
theorem tells_fact10 : ((Rows.spillTellsRow.unfollowed == Tryz.prog.unfollowed 3)) = true := by kernel_rfl
theorem tells_fact11 : ((Rows.spillTellsRow.recurses == Tryz.prog.recurses 3)) = true := by kernel_rfl
theorem tells_fact12 : ((Rows.spillTellsRow.named == Tryz.prog.varsNamed 3)) = true := by kernel_rfl
theorem tells_fact13 : ((Rows.spillTellsRow.maps == (Tryz.f3.params.toList ++ Rows.spillTellsSpec.plain.varTypes Tryz.prog).any (Tryz.prog.mapsRec ·))) = true := by kernel_rfl
theorem tells_fact14 : ((Rows.spillTellsRow.ifaces == (Tryz.f3.params.toList ++ Rows.spillTellsSpec.plain.varTypes Tryz.prog).any (Tryz.prog.ifacesRec ·))) = true := by kernel_rfl
theorem tells_fact15 : ((Rows.spillTellsRow.mapsOut == Tryz.prog.mapsAmong Tryz.f3.resultTypes.toList)) = true := by kernel_rfl
theorem tells_fact16 : ((Rows.spillTellsRow.loops == (Tryz.f3.params.toList ++ Rows.spillTellsSpec.plain.varTypes Tryz.prog).any (Tryz.prog.loopsFrom ·))) = true := by kernel_rfl
theorem tells_fact17 : ((Rows.spillTellsRow.wideKeys == (Tryz.f3.params.toList ++ Rows.spillTellsSpec.plain.varTypes Tryz.prog ++ Tryz.f3.resultTypes.toList).any (Tryz.prog.wideKeysFrom ·))) = true := by kernel_rfl
theorem tells_fact18 : (Rows.spillTellsSpec.vars.all (Tryz.prog.varReadable ·)) = true := by kernel_rfl
theorem tells_fact19 : (Tryz.f3.resultTypes.all (fun t => Tryz.prog.readableRec t && decide (t < Tryz.prog.types.size))) = true := by kernel_rfl
theorem tells_fact20 : ((Rows.spillTellsRow.ifacesOut == Tryz.f3.resultTypes.toList.any (Tryz.prog.ifacesRec ·))) = true := by kernel_rfl
theorem tells_fact21 : ((Rows.spillTellsRow.loopsOut == Tryz.f3.resultTypes.toList.any (Tryz.prog.loopsFrom ·))) = true := by kernel_rfl
theorem tells_fact22 : ((Rows.spillTellsRow.plainKeys == Tryz.prog.plainKeys)) = true := by kernel_rfl
theorem tells_fact23 : (Rows.spillTellsRow.shortTexts.isNone) = true := by kernel_rfl
theorem tells_fact29 : ((Rows.spillTellsRow.pinned == Rows.spillTellsRow.pinnedBy)) = true := by kernel_rfl
theorem tells_fact30 : ((Rows.spillTellsRow.veiled == (Tryz.f3.params.toList ++ Rows.spillTellsSpec.plain.varTypes Tryz.prog ++ Tryz.f3.resultTypes.toList).any (Tryz.prog.veiledRec ·))) = true := by kernel_rfl
theorem tells_fact31 : (Rows.spillTellsRow.veiledFits Tryz.prog Tryz.f3.params.toList (Tryz.f3.params.toList ++ Rows.spillTellsSpec.plain.varTypes Tryz.prog ++ Tryz.f3.resultTypes.toList)) = true := by kernel_rfl
theorem tells_facts : joinedFacts Tryz.prog 3 Tryz.f3 Rows.spillTellsSpec Rows.spillTellsRow = true := by
  unfold joinedFacts
  exact (and_both (and_both (and_both (and_both (and_both (and_both (and_both (and_both (and_both (and_both (and_both (and_both (and_both (and_both (and_both (and_both (and_both (and_both (and_both (and_both (and_both (and_both (and_both (and_both (and_both (and_both (and_both (and_both (and_both (and_both (and_both tells_fact0 laid_out) maps_rowed) tells_fact3) tells_fact4) tells_fact5) tells_fact6) tells_fact7) tells_fact8) tells_fact9) tells_fact10) tells_fact11) tells_fact12) tells_fact13) tells_fact14) tells_fact15) tells_fact16) tells_fact17) tells_fact18) tells_fact19) tells_fact20) tells_fact21) tells_fact22) tells_fact23) stops_heard) may_enter) lifts_final) make_is) (by kernel_rfl)) tells_fact29) tells_fact30) tells_fact31)
theorem tells_named : Tryz.prog.funcNamed "tabula/tabulalaw14.SpillTells" = some 3 := by kernel_rfl
theorem tells_byText : Rows.spillTellsRow.wfByText (OpenSpec.ofChange Rows.spillTellsSpec) = true := by kernel_rfl

theorem spillTells_row : Rows.SpillTellsSaid :=
  OpenClaim.holds_of_wide 3 Tryz.f3 rfl rfl rfl rfl rfl rfl rfl ⟨rfl, rfl, rfl, rfl, rfl⟩ rfl rfl rfl rfl rfl tells_named Tryz.func3 tells_facts
    (of_decide_eq_true (by kernel_rfl)) (by unfold Func.isWrapper; first | (rw [if_pos (by decide +kernel)]; kernel_rfl) | (rw [if_neg (by decide +kernel)]; exact ⟨rfl, rfl⟩))
    (fun os started H enc _ => tells_lifted os started H enc)

theorem spillTells_holds : Rows.SpillTellsCardSaid :=
  Claim7.holds_tied_plain_at .later [] [.data, .data, .data, .data, .sentinel, .sentinel, .data, .widerDeep, .pinned] true (true, "c85f2c943e6e02ad8e55fb0b6724a11ed4d36683a9ef96ef3ceb05c9857922f3") true spillTells_row (fun _ h => by cases h) tells_byText (fun _ h => by cases h) spillTells_row_tie rfl ⟨rfl, rfl⟩ main_is rfl
    (fun f fn hf hfn => by
      obtain rfl : f = 3 := Option.some.inj (tells_named.symm.trans hf) |>.symm
      obtain rfl : fn = Tryz.f3 := (Option.some.inj (Tryz.func3.symm.trans hfn)).symm
      exact ⟨looks_on, fun j t ht => by
        rw [Tryz.params3] at ht
        have hm : t ∈ [22, 23, 3, 27, 28, 25] := by simpa using Array.mem_of_getElem? ht
        have hall : ([22, 23, 3, 27, 28, 25].all fun u => !Tryz.prog.wantsStandIn u) = true := by kernel_rfl
        exact (show Tryz.prog.wantsStandIn t = false by simpa using List.all_eq_true.1 hall t hm)⟩)
    (goesBy_none rfl no_goes)
end Go.Proofs.YtmmknjpcffaidaaGreatDoor
