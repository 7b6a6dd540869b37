/- tabulalaw14.SpillSmall answers true at whatever arguments, and leaves them as they read before: the row and its tied card. No condition but the variables that the row lists. -/
import Derived.Test.YtmmknjpcffaidaaGreatDoorSpLaid
import Derived.Test.YtmmknjpcffaidaaGreatDoorSpFacts
import Derived.Test.YtmmknjpcffaidaaGreatDoorSpOpenS
import Derived.Test.YtmmknjpcffaidaaGreatDoorSpArgs
import Derived.Test.YtmmknjpcffaidaaGreatDoorSpSmallL
import Derived.SevenTiedAt
import Derived.Stop.Joined
namespace Go.Proofs.YtmmknjpcffaidaaGreatDoor
open Go.ChangeShapes Go.WideShapes Go.ChangeAt Go.RowKit Go.Lib

set_option maxRecDepth 100000 in
theorem small_lifted (os : Os) (started : os.Started) (H : Type) (enc : TypeId × Value → H) :
    ReturnsInHanded {} Tryz.checked os 7 .any (fun w args => (Rows.spillSmallSpec.pre enc Tryz.prog Tryz.f7 Rows.spillSmallRow.domain false w args ∧ laidMetH Tryz.prog laidList w) ∧ sizedMet enc Tryz.prog Tryz.f7 (OpenSpec.ofChange Rows.spillSmallSpec) false w args)
      (Rows.spillSmallSpec.post enc Tryz.prog Tryz.f7 false true false false) := by
  refine returnsInHanded_of_change_and (C := Tryz.checked) (X := fun w _ => laidMetH Tryz.prog laidList w) (fun _ _ _ hh h => h.of_heap hh) Tryz.own started (by kernel_rfl) Tryz.func7
    (ChangeSpec.witness_shaped (enc := enc) (C := Tryz.checked) (os := os) (X := fun w _ => laidMetH Tryz.prog laidList w) false (World.laidAll Tryz.prog os laidList) #[.slice none 0 0, .slice none 0 0, .int .i64 0, .int .i64 0, .int .i64 0] 8 (World.laidAll_os _ _ _)
      (laid_shaped os _) (by kernel_rfl) (by kernel_rfl) (by kernel_rfl) (laid_met os _)) ?_
  intro W base args ds gs before hval0 hW hcnd _ hL _
  have hval : ∀ (j : Nat) t v, Tryz.f7.params[j]? = some t → args[j]? = some v → Value.okWide Tryz.prog W .any base t v := hval0
  have hW' := hW
  obtain ⟨p, q, hA0, hV, rfl, hfz, hnd⟩ := hW
  have hA : DataW.TrodAll enc Tryz.prog W 0 (fun _ => true) true Tryz.f7.params.toList args.toList ds p := hA0
  rw [Tryz.params7] at hA hval
  obtain ⟨v0, v1, v2, v3, v4, d0, d1, d2, d3, d4, p0, p1, p2, p3, p4, rfl, rfl, rfl, h0, h1, h2, h3, h4⟩ := trodAll_five hA
  obtain ⟨rfl, rfl⟩ := trodVars_none hV
  obtain ⟨l0, a0, s0⟩ := ats_opened h0 (by have := hval 0 22 v0 rfl rfl; exact cells_slice Tryz.underlying22 this)
  obtain ⟨l1, a1, s1⟩ := pairs_opened h1 (by have := hval 1 23 v1 rfl rfl; exact cells_slice Tryz.underlying23 this)
  obtain ⟨x2, rfl, rfl, rfl, w2⟩ := open_int Tryz.underlying3 (hval 2 3 v2 rfl rfl) h2
  obtain ⟨x3, rfl, rfl, rfl, w3⟩ := open_int Tryz.underlying3 (hval 3 3 v3 rfl rfl) h3
  obtain ⟨x4, rfl, rfl, rfl, w4⟩ := open_int Tryz.underlying3 (hval 4 3 v4 rfl rfl) h4
  clear hA0 hval0
  simp only [List.append_nil] at hW'
  have hlt : ∀ x ∈ p0 ++ p1, x.block < W.heap.size := fun x hx => hW'.lt x (by simpa using hx)
  refine (smallL_any W (tabs_of_laid hL) v0 v1 l0 l1 x2 x3 x4 a0 s0 a1 s1 (wfInt w2) (wfInt w3) (wfInt w4)).mono fun e W' ⟨he, hw⟩ => ?_
  subst he
  exact ⟨_, rfl, post_of_below (pa := p0 ++ (p1 ++ ([] ++ ([] ++ ([]))))) (pv := []) hW' (fun _ _ _ => trodAll_mk1 (shut_bool Tryz.underlying4 true))
    (fun sp hsp => trodAll_mk5 (trod_later at_laid (by kernel_rfl) (of_decide_eq_true (by kernel_rfl)) h0 hw hlt (fun x hx => hsp x (by simpa using hx)) (by simp +contextual)) (trod_later at_laid (by kernel_rfl) (of_decide_eq_true (by kernel_rfl)) h1 hw hlt (fun x hx => hsp x (by simpa using hx)) (by simp +contextual)) (shut_int Tryz.underlying3 w2) (shut_int Tryz.underlying3 w3) (shut_int Tryz.underlying3 w4))
    (fun _ _ => rfl) (by simp) hw (ok_one (by kernel_rfl) rfl (okWide_bool_mk Tryz.underlying4 true))⟩

theorem small_fact0 : (Rows.spillSmallRow.wf (OpenSpec.ofChange Rows.spillSmallSpec)) = true := by kernel_rfl
theorem small_fact3 : (Tryz.f7.params.all (Tryz.prog.readableRec ·)) = true := by kernel_rfl
theorem small_fact4 : (namedTie Tryz.prog Rows.spillSmallRow.named Rows.spillSmallSpec.vars) = true := by kernel_rfl
theorem small_fact5 : ((Rows.spillSmallRow.stops == [])) = true := by kernel_rfl
theorem small_fact6 : ((Tryz.prog.stops == [])) = true := by kernel_rfl
theorem small_fact7 : ((Rows.spillSmallRow.knobs == [])) = true := by kernel_rfl
theorem small_fact8 : ((Tryz.prog.stopKnobs == [])) = true := by kernel_rfl
theorem small_fact9 : ((Rows.spillSmallRow.inPlace == Tryz.prog.inPlace 7)) = true := by kernel_rfl
theorem small_fact10 : ((Rows.spillSmallRow.unfollowed == Tryz.prog.unfollowed 7)) = true := by kernel_rfl
theorem small_fact11 : ((Rows.spillSmallRow.recurses == Tryz.prog.recurses 7)) = true := by kernel_rfl
theorem small_fact12 : ((Rows.spillSmallRow.named == Tryz.prog.varsNamed 7)) = true := by kernel_rfl
theorem small_fact13 : ((Rows.spillSmallRow.maps == (Tryz.f7.params.toList ++ Rows.spillSmallSpec.plain.varTypes Tryz.prog).any (Tryz.prog.mapsRec ·))) = true := by kernel_rfl
theorem small_fact14 : ((Rows.spillSmallRow.ifaces == (Tryz.f7.params.toList ++ Rows.spillSmallSpec.plain.varTypes Tryz.prog).any (Tryz.prog.ifacesRec ·))) = true := by kernel_rfl
theorem small_fact15 : ((Rows.spillSmallRow.mapsOut == Tryz.prog.mapsAmong Tryz.f7.resultTypes.toList)) = true := by kernel_rfl
theorem small_fact16 : ((Rows.spillSmallRow.loops == (Tryz.f7.params.toList ++ Rows.spillSmallSpec.plain.varTypes Tryz.prog).any (Tryz.prog.loopsFrom ·))) = true := by kernel_rfl
theorem small_fact17 : ((Rows.spillSmallRow.wideKeys == (Tryz.f7.params.toList ++ Rows.spillSmallSpec.plain.varTypes Tryz.prog ++ Tryz.f7.resultTypes.toList).any (Tryz.prog.wideKeysFrom ·))) = true := by kernel_rfl
theorem small_fact18 : (Rows.spillSmallSpec.vars.all (Tryz.prog.varReadable ·)) = true := by kernel_rfl
theorem small_fact19 : (Tryz.f7.resultTypes.all (fun t => Tryz.prog.readableRec t && decide (t < Tryz.prog.types.size))) = true := by kernel_rfl
theorem small_fact20 : ((Rows.spillSmallRow.ifacesOut == Tryz.f7.resultTypes.toList.any (Tryz.prog.ifacesRec ·))) = true := by kernel_rfl
theorem small_fact21 : ((Rows.spillSmallRow.loopsOut == Tryz.f7.resultTypes.toList.any (Tryz.prog.loopsFrom ·))) = true := by kernel_rfl
theorem small_fact22 : ((Rows.spillSmallRow.plainKeys == Tryz.prog.plainKeys)) = true := by kernel_rfl
theorem small_fact23 : (Rows.spillSmallRow.shortTexts.isNone) = true := by kernel_rfl
theorem small_fact29 : ((Rows.spillSmallRow.pinned == Rows.spillSmallRow.pinnedBy)) = true := by kernel_rfl
theorem small_fact30 : ((Rows.spillSmallRow.veiled == (Tryz.f7.params.toList ++ Rows.spillSmallSpec.plain.varTypes Tryz.prog ++ Tryz.f7.resultTypes.toList).any (Tryz.prog.veiledRec ·))) = true := by kernel_rfl
theorem small_fact31 : (Rows.spillSmallRow.veiledFits Tryz.prog Tryz.f7.params.toList (Tryz.f7.params.toList ++ Rows.spillSmallSpec.plain.varTypes Tryz.prog ++ Tryz.f7.resultTypes.toList)) = true := by kernel_rfl
theorem small_facts : joinedFacts Tryz.prog 7 Tryz.f7 Rows.spillSmallSpec Rows.spillSmallRow = true := by
  unfold joinedFacts
  exact (and_both (and_both (and_both (and_both (and_both (and_both (and_both (and_both (and_both (and_both (and_both (and_both (and_both (and_both (and_both (and_both (and_both (and_both (and_both (and_both (and_both (and_both (and_both (and_both (and_both (and_both (and_both (and_both (and_both (and_both (and_both small_fact0 laid_out) maps_rowed) small_fact3) small_fact4) small_fact5) small_fact6) small_fact7) small_fact8) small_fact9) small_fact10) small_fact11) small_fact12) small_fact13) small_fact14) small_fact15) small_fact16) small_fact17) small_fact18) small_fact19) small_fact20) small_fact21) small_fact22) small_fact23) stops_heard) may_enter) lifts_final) make_is) (by kernel_rfl)) small_fact29) small_fact30) small_fact31)
theorem small_named : Tryz.prog.funcNamed "tabula/tabulalaw14.SpillSmall" = some 7 := by kernel_rfl
theorem small_byText : Rows.spillSmallRow.wfByText (OpenSpec.ofChange Rows.spillSmallSpec) = true := by kernel_rfl

theorem spillSmall_row : Rows.SpillSmallSaid :=
  OpenClaim.holds_of_wide 7 Tryz.f7 rfl rfl rfl rfl rfl rfl rfl ⟨rfl, rfl, rfl, rfl, rfl⟩ rfl rfl rfl rfl rfl small_named Tryz.func7 small_facts
    (of_decide_eq_true (by kernel_rfl)) (by unfold Func.isWrapper; first | (rw [if_pos (by decide +kernel)]; kernel_rfl) | (rw [if_neg (by decide +kernel)]; exact ⟨rfl, rfl⟩))
    (fun os started H enc _ => small_lifted os started H enc)

theorem spillSmall_holds : Rows.SpillSmallCardSaid :=
  Claim7.holds_tied_plain_at .later [] [.data, .data, .data, .data, .sentinel, .sentinel, .data, .widerDeep, .pinned] true (true, "c85f2c943e6e02ad8e55fb0b6724a11ed4d36683a9ef96ef3ceb05c9857922f3") true spillSmall_row (fun _ h => by cases h) small_byText (fun _ h => by cases h) spillSmall_row_tie rfl ⟨rfl, rfl⟩ main_is rfl
    (fun f fn hf hfn => by
      obtain rfl : f = 7 := Option.some.inj (small_named.symm.trans hf) |>.symm
      obtain rfl : fn = Tryz.f7 := (Option.some.inj (Tryz.func7.symm.trans hfn)).symm
      exact ⟨looks_on, fun j t ht => by
        rw [Tryz.params7] at ht
        have hm : t ∈ [22, 23, 3, 3, 3] := by simpa using Array.mem_of_getElem? ht
        have hall : ([22, 23, 3, 3, 3].all fun u => !Tryz.prog.wantsStandIn u) = true := by kernel_rfl
        exact (show Tryz.prog.wantsStandIn t = false by simpa using List.all_eq_true.1 hall t hm)⟩)
    (goesBy_none rfl no_goes)
end Go.Proofs.YtmmknjpcffaidaaGreatDoor
