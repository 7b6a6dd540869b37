/- tabulalaw13.IslandsChain answers true at whatever arguments, and leaves them as they read before: the row and its tied card. No condition but the variables that the row lists. -/
import Derived.Test.YtpcjfgihglfdgaaGreatDoorKSpOwn
import Derived.Test.YtpcjfgihglfdgaaGreatDoorKChLawF
import Derived.SevenTiedAt
import Derived.Stop.Joined

namespace Go.Proofs.YtpcjfgihglfdgaaGreatDoor
open Go.ChangeShapes Go.WideShapes Go.ChangeAt Go.RowKit Go.Lib

theorem wfU8 {n : Int} (h : (Lit.int .u8 n).wf = true) : 0 ≤ n ∧ n < 256 := by
  simp only [Lit.wf, Bool.and_eq_true, decide_eq_true_eq] at h
  have e1 : IntKind.u8.min = 0 := rfl
  have e2 : IntKind.u8.max = 255 := rfl
  have h1 := h.1
  have h2 := h.2
  omega
set_option maxRecDepth 100000 in
theorem chain_lifted (os : Os) (started : os.Started) (H : Type) (enc : TypeId × Value → H) :
    ReturnsInHanded {} Tryz.checked os 3 .any (fun w args => (Rows.islandsChainSpec.pre enc Tryz.prog Tryz.f3 Rows.islandsChainRow.domain false w args ∧ laidMetH Tryz.prog laidList w) ∧ sizedMet enc Tryz.prog Tryz.f3 (OpenSpec.ofChange Rows.islandsChainSpec) false w args)
      (Rows.islandsChainSpec.post enc Tryz.prog Tryz.f3 false true false false) := by
  refine returnsInHanded_of_change_and (C := Tryz.checked) (X := fun w _ => laidMetH Tryz.prog laidList w) (fun _ _ _ hh h => h.of_heap hh) Tryz.own started (by kernel_rfl) Tryz.func3
    (ChangeSpec.witness_shaped (enc := enc) (C := Tryz.checked) (os := os) (X := fun w _ => laidMetH Tryz.prog laidList w) false (World.laidAll Tryz.prog os laidList) #[.int .u8 0] 8 (World.laidAll_os _ _ _)
      (laid_shaped os _) (by kernel_rfl) (by kernel_rfl) (by kernel_rfl) (laid_met os _)) ?_
  intro W base args ds gs before hval0 hW hcnd _ hL _
  have hval : ∀ (j : Nat) t v, Tryz.f3.params[j]? = some t → args[j]? = some v → Value.okWide Tryz.prog W .any base t v := hval0
  have hW' := hW
  obtain ⟨p, q, hA0, hV, rfl, hfz, hnd⟩ := hW
  have hA : DataW.TrodAll enc Tryz.prog W 0 (fun _ => true) true Tryz.f3.params.toList args.toList ds p := hA0
  rw [Tryz.params3] at hA hval
  obtain ⟨v0, d0, rfl, rfl, h0⟩ := trodAll_one hA
  obtain ⟨rfl, rfl⟩ := trodVars_none hV
  obtain ⟨x0, rfl, rfl, rfl, w0⟩ := open_int Tryz.underlying5 (hval 0 5 v0 rfl rfl) h0
  clear hA0 hval0
  simp only [List.append_nil] at hW'
  refine (chain_any W (env_of_laid hL) x0 (wfU8 w0).1 (wfU8 w0).2).mono fun e W' ⟨he, hw⟩ => ?_
  subst he
  exact ⟨_, rfl, post_of_below (pa := []) (pv := []) hW' (fun _ _ _ => trodAll_mk1 (shut_bool Tryz.underlying4 true))
    (fun sp hsp => trodAll_mk1 (shut_int Tryz.underlying5 w0))
    (fun _ _ => rfl) (by simp) hw (ok_one (by kernel_rfl) rfl (okWide_bool_mk Tryz.underlying4 true))⟩

theorem chain_fact0 : (Rows.islandsChainRow.wf (OpenSpec.ofChange Rows.islandsChainSpec)) = true := by kernel_rfl
theorem chain_fact3 : (Tryz.f3.params.all (Tryz.prog.readableRec ·)) = true := by kernel_rfl
theorem chain_fact4 : (namedTie Tryz.prog Rows.islandsChainRow.named Rows.islandsChainSpec.vars) = true := by kernel_rfl
theorem chain_fact5 : ((Rows.islandsChainRow.stops == [])) = true := by kernel_rfl
theorem chain_fact6 : ((Tryz.prog.stops == [])) = true := by kernel_rfl
theorem chain_fact7 : ((Rows.islandsChainRow.knobs == [])) = true := by kernel_rfl
theorem chain_fact8 : ((Tryz.prog.stopKnobs == [])) = true := by kernel_rfl
theorem chain_fact9 : ((Rows.islandsChainRow.inPlace == Tryz.prog.inPlace 3)) = true := by kernel_rfl
theorem chain_fact10 : ((Rows.islandsChainRow.unfollowed == Tryz.prog.unfollowed 3)) = true := by kernel_rfl
theorem chain_fact11 : ((Rows.islandsChainRow.recurses == Tryz.prog.recurses 3)) = true := by kernel_rfl
theorem chain_fact12 : ((Rows.islandsChainRow.named == Tryz.prog.varsNamed 3)) = true := by kernel_rfl
theorem chain_fact13 : ((Rows.islandsChainRow.maps == (Tryz.f3.params.toList ++ Rows.islandsChainSpec.plain.varTypes Tryz.prog).any (Tryz.prog.mapsRec ·))) = true := by kernel_rfl
theorem chain_fact14 : ((Rows.islandsChainRow.ifaces == (Tryz.f3.params.toList ++ Rows.islandsChainSpec.plain.varTypes Tryz.prog).any (Tryz.prog.ifacesRec ·))) = true := by kernel_rfl
theorem chain_fact15 : ((Rows.islandsChainRow.mapsOut == Tryz.prog.mapsAmong Tryz.f3.resultTypes.toList)) = true := by kernel_rfl
theorem chain_fact16 : ((Rows.islandsChainRow.loops == (Tryz.f3.params.toList ++ Rows.islandsChainSpec.plain.varTypes Tryz.prog).any (Tryz.prog.loopsFrom ·))) = true := by kernel_rfl
theorem chain_fact17 : ((Rows.islandsChainRow.wideKeys == (Tryz.f3.params.toList ++ Rows.islandsChainSpec.plain.varTypes Tryz.prog ++ Tryz.f3.resultTypes.toList).any (Tryz.prog.wideKeysFrom ·))) = true := by kernel_rfl
theorem chain_fact18 : (Rows.islandsChainSpec.vars.all (Tryz.prog.varReadable ·)) = true := by kernel_rfl
theorem chain_fact19 : (Tryz.f3.resultTypes.all (fun t => Tryz.prog.readableRec t && decide (t < Tryz.prog.types.size))) = true := by kernel_rfl
theorem chain_fact20 : ((Rows.islandsChainRow.ifacesOut == Tryz.f3.resultTypes.toList.any (Tryz.prog.ifacesRec ·))) = true := by kernel_rfl
theorem chain_fact21 : ((Rows.islandsChainRow.loopsOut == Tryz.f3.resultTypes.toList.any (Tryz.prog.loopsFrom ·))) = true := by kernel_rfl
theorem chain_fact22 : ((Rows.islandsChainRow.plainKeys == Tryz.prog.plainKeys)) = true := by kernel_rfl
theorem chain_fact23 : (Rows.islandsChainRow.shortTexts.isNone) = true := by kernel_rfl
theorem chain_fact29 : ((Rows.islandsChainRow.pinned == Rows.islandsChainRow.pinnedBy)) = true := by kernel_rfl
theorem chain_fact30 : ((Rows.islandsChainRow.veiled == (Tryz.f3.params.toList ++ Rows.islandsChainSpec.plain.varTypes Tryz.prog ++ Tryz.f3.resultTypes.toList).any (Tryz.prog.veiledRec ·))) = true := by kernel_rfl
theorem chain_fact31 : (Rows.islandsChainRow.veiledFits Tryz.prog Tryz.f3.params.toList (Tryz.f3.params.toList ++ Rows.islandsChainSpec.plain.varTypes Tryz.prog ++ Tryz.f3.resultTypes.toList)) = true := by kernel_rfl
theorem chain_facts : joinedFacts Tryz.prog 3 Tryz.f3 Rows.islandsChainSpec Rows.islandsChainRow = true := by
  unfold joinedFacts
  exact (and_both (and_both (and_both (and_both (and_both (and_both (and_both (and_both (and_both (and_both (and_both (and_both (and_both (and_both (and_both (and_both (and_both (and_both (and_both (and_both (and_both (and_both (and_both (and_both (and_both (and_both (and_both (and_both (and_both (and_both (and_both chain_fact0 laid_out) maps_rowed) chain_fact3) chain_fact4) chain_fact5) chain_fact6) chain_fact7) chain_fact8) chain_fact9) chain_fact10) chain_fact11) chain_fact12) chain_fact13) chain_fact14) chain_fact15) chain_fact16) chain_fact17) chain_fact18) chain_fact19) chain_fact20) chain_fact21) chain_fact22) chain_fact23) stops_heard) may_enter) lifts_final) make_is) (by kernel_rfl)) chain_fact29) chain_fact30) chain_fact31)
theorem chain_named : Tryz.prog.funcNamed "tabula/tabulalaw13.IslandsChain" = some 3 := by kernel_rfl
theorem chain_byText : Rows.islandsChainRow.wfByText (OpenSpec.ofChange Rows.islandsChainSpec) = true := by kernel_rfl

theorem islandsChain_row : Rows.IslandsChainSaid :=
  OpenClaim.holds_of_wide 3 Tryz.f3 rfl rfl rfl rfl rfl rfl rfl ⟨rfl, rfl, rfl, rfl, rfl⟩ rfl rfl rfl rfl rfl chain_named Tryz.func3 chain_facts
    (of_decide_eq_true (by kernel_rfl)) (by unfold Func.isWrapper; first | (rw [if_pos (by decide +kernel)]; kernel_rfl) | (rw [if_neg (by decide +kernel)]; exact ⟨rfl, rfl⟩))
    (fun os started H enc _ => chain_lifted os started H enc)

theorem islandsChain_holds : Rows.IslandsChainCardSaid :=
  Claim7.holds_tied_plain_at .later [] [.data, .data, .data, .data, .sentinel, .sentinel, .sentinel, .sentinel, .data, .widerDeep, .pinned] true (true, "c5d5f39071bb045ed6705fabfe8966998c565a72f3b36533090a16b80d88d28b") true islandsChain_row (fun _ h => by cases h) chain_byText (fun _ h => by cases h) islandsChain_row_tie rfl ⟨rfl, rfl⟩ main_is rfl
    (fun f fn hf hfn => by
      obtain rfl : f = 3 := Option.some.inj (chain_named.symm.trans hf) |>.symm
      obtain rfl : fn = Tryz.f3 := (Option.some.inj (Tryz.func3.symm.trans hfn)).symm
      exact ⟨looks_on, fun j t ht => by
        rw [Tryz.params3] at ht
        have hm : t ∈ [5] := by simpa using Array.mem_of_getElem? ht
        have hall : ([5].all fun u => !Tryz.prog.wantsStandIn u) = true := by kernel_rfl
        exact (show Tryz.prog.wantsStandIn t = false by simpa using List.all_eq_true.1 hall t hm)⟩)
    (goesBy_none rfl no_goes)
end Go.Proofs.YtpcjfgihglfdgaaGreatDoor
