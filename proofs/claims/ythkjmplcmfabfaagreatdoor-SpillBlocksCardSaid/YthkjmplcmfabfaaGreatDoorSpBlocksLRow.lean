/- tabulalaw14.SpillBlocks answers true at whatever arguments, and leaves them as they read before: the row and its tied card. No condition but the variables that the row lists. -/
import Derived.Test.YthkjmplcmfabfaaGreatDoorSpLaid
import Derived.Test.YthkjmplcmfabfaaGreatDoorSpFacts
import Derived.Test.YthkjmplcmfabfaaGreatDoorSpOpenS
import Derived.Test.YthkjmplcmfabfaaGreatDoorSpBlocksL
import Derived.SevenTiedAt
import Derived.Stop.Joined
namespace Go.Proofs.YthkjmplcmfabfaaGreatDoor
open Go.ChangeShapes Go.WideShapes Go.ChangeAt Go.RowKit Go.Lib

set_option maxRecDepth 100000 in
theorem blocks_lifted (os : Os) (started : os.Started) (H : Type) (enc : TypeId × Value → H) :
    ReturnsInHanded {} Tryz.checked os 3 .any (fun w args => (Rows.spillBlocksSpec.pre enc Tryz.prog Tryz.f3 Rows.spillBlocksRow.domain false w args ∧ laidMetH Tryz.prog laidList w) ∧ sizedMet enc Tryz.prog Tryz.f3 (OpenSpec.ofChange Rows.spillBlocksSpec) false w args)
      (Rows.spillBlocksSpec.post enc Tryz.prog Tryz.f3 false true false false) := by
  refine returnsInHanded_of_change_and (C := Tryz.checked) (X := fun w _ => laidMetH Tryz.prog laidList w) (fun _ _ _ hh h => h.of_heap hh) Tryz.own started (by kernel_rfl) Tryz.func3
    (ChangeSpec.witness_shaped (enc := enc) (C := Tryz.checked) (os := os) (X := fun w _ => laidMetH Tryz.prog laidList w) false (World.laidAll Tryz.prog os laidList) #[.slice none 0 0, .slice none 0 0, .int .i64 0, .int .i64 0] 8 (World.laidAll_os _ _ _)
      (laid_shaped os _) (by kernel_rfl) (by kernel_rfl) (by kernel_rfl) (laid_met os _)) ?_
  intro W base args ds gs before hval0 hW hcnd _ hL _
  have hval : ∀ (j : Nat) t v, Tryz.f3.params[j]? = some t → args[j]? = some v → Value.okWide Tryz.prog W .any base t v := hval0
  have hW' := hW
  obtain ⟨p, q, hA0, hV, rfl, hfz, hnd⟩ := hW
  have hA : DataW.TrodAll enc Tryz.prog W 0 (fun _ => true) true Tryz.f3.params.toList args.toList ds p := hA0
  rw [Tryz.params3] at hA hval
  obtain ⟨v0, v1, v2, v3, d0, d1, d2, d3, p0, p1, p2, p3, rfl, rfl, rfl, h0, h1, h2, h3⟩ := trodAll_four hA
  obtain ⟨rfl, rfl⟩ := trodVars_none hV
  obtain ⟨l0, a0, s0⟩ := ats_opened h0 (by have := hval 0 22 v0 rfl rfl; exact cells_slice Tryz.underlying22 this)
  obtain ⟨l1, a1, s1⟩ := pairs_opened h1 (by have := hval 1 23 v1 rfl rfl; exact cells_slice Tryz.underlying23 this)
  obtain ⟨x2, rfl, rfl, rfl, w2⟩ := open_int Tryz.underlying3 (hval 2 3 v2 rfl rfl) h2
  obtain ⟨x3, rfl, rfl, rfl, w3⟩ := open_int Tryz.underlying3 (hval 3 3 v3 rfl rfl) h3
  clear hA0 hval0
  simp only [List.append_nil] at hW'
  have hlt : ∀ x ∈ p0 ++ p1, x.block < W.heap.size := fun x hx => hW'.lt x (by simpa using hx)
  refine (blocks_any W (tabs_of_laid hL) v0 v1 l0 l1 x2 x3 a0 s0 a1 s1 (wfInt w2).1 (wfInt w2).2 (wfInt w3).1 (wfInt w3).2).mono fun e W' ⟨he, hw⟩ => ?_
  subst he
  exact ⟨_, rfl, post_of_below (pa := p0 ++ (p1 ++ ([] ++ ([])))) (pv := []) hW' (fun _ _ _ => trodAll_mk1 (shut_bool Tryz.underlying4 true))
    (fun sp hsp => trodAll_mk4 (trod_later at_laid (by kernel_rfl) (of_decide_eq_true (by kernel_rfl)) h0 hw hlt (fun x hx => hsp x (by simpa using hx)) (by simp +contextual)) (trod_later at_laid (by kernel_rfl) (of_decide_eq_true (by kernel_rfl)) h1 hw hlt (fun x hx => hsp x (by simpa using hx)) (by simp +contextual)) (shut_int Tryz.underlying3 w2) (shut_int Tryz.underlying3 w3))
    (fun _ _ => rfl) (by simp) hw (ok_one (by kernel_rfl) rfl (okWide_bool_mk Tryz.underlying4 true))⟩

theorem blocks_fact0 : (Rows.spillBlocksRow.wf (OpenSpec.ofChange Rows.spillBlocksSpec)) = true := by kernel_rfl
theorem blocks_fact3 : (Tryz.f3.params.all (Tryz.prog.readableRec ·)) = true := by kernel_rfl
theorem blocks_fact4 : (namedTie Tryz.prog Rows.spillBlocksRow.named Rows.spillBlocksSpec.vars) = true := by kernel_rfl
theorem blocks_fact5 : ((Rows.spillBlocksRow.stops == [])) = true := by kernel_rfl
theorem blocks_fact6 : ((Tryz.prog.stops == [])) = true := by kernel_rfl
theorem blocks_fact7 : ((Rows.spillBlocksRow.knobs == [])) = true := by kernel_rfl
theorem blocks_fact8 : ((Tryz.prog.stopKnobs == [])) = true := by kernel_rfl
theorem blocks_fact9 : ((Rows.spillBlocksRow.inPlace == Tryz.prog.inPlace 3)) = true := by kernel_rfl
theorem blocks_fact10 : ((Rows.spillBlocksRow.unfollowed == Tryz.prog.unfollowed 3)) = true := by kernel_rfl
theorem blocks_fact11 : ((Rows.spillBlocksRow.recurses == Tryz.prog.recurses 3)) = true := by kernel_rfl
theorem blocks_fact12 : ((Rows.spillBlocksRow.named == Tryz.prog.varsNamed 3)) = true := by kernel_rfl
theorem blocks_fact13 : ((Rows.spillBlocksRow.maps == (Tryz.f3.params.toList ++ Rows.spillBlocksSpec.plain.varTypes Tryz.prog).any (Tryz.prog.mapsRec ·))) = true := by kernel_rfl
theorem blocks_fact14 : ((Rows.spillBlocksRow.ifaces == (Tryz.f3.params.toList ++ Rows.spillBlocksSpec.plain.varTypes Tryz.prog).any (Tryz.prog.ifacesRec ·))) = true := by kernel_rfl
theorem blocks_fact15 : ((Rows.spillBlocksRow.mapsOut == Tryz.prog.mapsAmong Tryz.f3.resultTypes.toList)) = true := by kernel_rfl
theorem blocks_fact16 : ((Rows.spillBlocksRow.loops == (Tryz.f3.params.toList ++ Rows.spillBlocksSpec.plain.varTypes Tryz.prog).any (Tryz.prog.loopsFrom ·))) = true := by kernel_rfl
theorem blocks_fact17 : ((Rows.spillBlocksRow.wideKeys == (Tryz.f3.params.toList ++ Rows.spillBlocksSpec.plain.varTypes Tryz.prog ++ Tryz.f3.resultTypes.toList).any (Tryz.prog.wideKeysFrom ·))) = true := by kernel_rfl
theorem blocks_fact18 : (Rows.spillBlocksSpec.vars.all (Tryz.prog.varReadable ·)) = true := by kernel_rfl
theorem blocks_fact19 : (Tryz.f3.resultTypes.all (fun t => Tryz.prog.readableRec t && decide (t < Tryz.prog.types.size))) = true := by kernel_rfl
theorem blocks_fact20 : ((Rows.spillBlocksRow.ifacesOut == Tryz.f3.resultTypes.toList.any (Tryz.prog.ifacesRec ·))) = true := by kernel_rfl
theorem blocks_fact21 : ((Rows.spillBlocksRow.loopsOut == Tryz.f3.resultTypes.toList.any (Tryz.prog.loopsFrom ·))) = true := by kernel_rfl
theorem blocks_fact22 : ((Rows.spillBlocksRow.plainKeys == Tryz.prog.plainKeys)) = true := by kernel_rfl
theorem blocks_fact23 : (Rows.spillBlocksRow.shortTexts.isNone) = true := by kernel_rfl
theorem blocks_fact29 : ((Rows.spillBlocksRow.pinned == Rows.spillBlocksRow.pinnedBy)) = true := by kernel_rfl
theorem blocks_fact30 : ((Rows.spillBlocksRow.veiled == (Tryz.f3.params.toList ++ Rows.spillBlocksSpec.plain.varTypes Tryz.prog ++ Tryz.f3.resultTypes.toList).any (Tryz.prog.veiledRec ·))) = true := by kernel_rfl
theorem blocks_fact31 : (Rows.spillBlocksRow.veiledFits Tryz.prog Tryz.f3.params.toList (Tryz.f3.params.toList ++ Rows.spillBlocksSpec.plain.varTypes Tryz.prog ++ Tryz.f3.resultTypes.toList)) = true := by kernel_rfl
theorem blocks_facts : joinedFacts Tryz.prog 3 Tryz.f3 Rows.spillBlocksSpec Rows.spillBlocksRow = true := by
  unfold joinedFacts
  exact (and_both (and_both (and_both (and_both (and_both (and_both (and_both (and_both (and_both (and_both (and_both (and_both (and_both (and_both (and_both (and_both (and_both (and_both (and_both (and_both (and_both (and_both (and_both (and_both (and_both (and_both (and_both (and_both (and_both (and_both (and_both blocks_fact0 laid_out) maps_rowed) blocks_fact3) blocks_fact4) blocks_fact5) blocks_fact6) blocks_fact7) blocks_fact8) blocks_fact9) blocks_fact10) blocks_fact11) blocks_fact12) blocks_fact13) blocks_fact14) blocks_fact15) blocks_fact16) blocks_fact17) blocks_fact18) blocks_fact19) blocks_fact20) blocks_fact21) blocks_fact22) blocks_fact23) stops_heard) may_enter) lifts_final) make_is) (by kernel_rfl)) blocks_fact29) blocks_fact30) blocks_fact31)
theorem blocks_named : Tryz.prog.funcNamed "tabula/tabulalaw14.SpillBlocks" = some 3 := by kernel_rfl
theorem blocks_byText : Rows.spillBlocksRow.wfByText (OpenSpec.ofChange Rows.spillBlocksSpec) = true := by kernel_rfl

theorem spillBlocks_row : Rows.SpillBlocksSaid :=
  OpenClaim.holds_of_wide 3 Tryz.f3 rfl rfl rfl rfl rfl rfl rfl ⟨rfl, rfl, rfl, rfl, rfl⟩ rfl rfl rfl rfl rfl blocks_named Tryz.func3 blocks_facts
    (of_decide_eq_true (by kernel_rfl)) (by unfold Func.isWrapper; first | (rw [if_pos (by decide +kernel)]; kernel_rfl) | (rw [if_neg (by decide +kernel)]; exact ⟨rfl, rfl⟩))
    (fun os started H enc _ => blocks_lifted os started H enc)

theorem spillBlocks_holds : Rows.SpillBlocksCardSaid :=
  Claim7.holds_tied_plain_at .later [] [.data, .data, .data, .data, .sentinel, .sentinel, .data, .widerDeep, .pinned] true (true, "df0722f98d89e6375b0ca196a8f2f0460775aca860af1a3e269044948a3bf9ab") true spillBlocks_row (fun _ h => by cases h) blocks_byText (fun _ h => by cases h) spillBlocks_row_tie rfl ⟨rfl, rfl⟩ main_is rfl
    (fun f fn hf hfn => by
      obtain rfl : f = 3 := Option.some.inj (blocks_named.symm.trans hf) |>.symm
      obtain rfl : fn = Tryz.f3 := (Option.some.inj (Tryz.func3.symm.trans hfn)).symm
      exact ⟨looks_on, fun j t ht => by
        rw [Tryz.params3] at ht
        have hm : t ∈ [22, 23, 3, 3] := by simpa using Array.mem_of_getElem? ht
        have hall : ([22, 23, 3, 3].all fun u => !Tryz.prog.wantsStandIn u) = true := by kernel_rfl
        exact (show Tryz.prog.wantsStandIn t = false by simpa using List.all_eq_true.1 hall t hm)⟩)
    (goesBy_none rfl no_goes)
end Go.Proofs.YthkjmplcmfabfaaGreatDoor
