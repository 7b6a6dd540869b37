/- General: a region that draws its order, within a round of a range over a function, out of the plain law; a range over a function whose rounds all go on. -/
import Derived.RangeFuncNested
import Derived.RangeFuncBound
import Derived.RangeFuncCalls
import Derived.RangeFuncLeaves
import Derived.Deep.RegionHeld3
import Derived.Deep.DrawnRows
import Derived.WalkKit
import Derived.OwnWalkIn
import Derived.TacticsInMore
import Derived.LoopNIn
import Derived.LoopIn
import Derived.Shelf.Abstract
import Derived.Shelf.RegionOpen
namespace Go.Proofs.Ytknmebknkncmoaa
open Go.RowKit

theorem wide_fn (f : FuncId) : Fence.wide.fn f = True := rfl

section
variable {P : Program} {ops : Array Oper} {Q : Exit → Act → World → Prop} {lp n : Nat}

theorem wpOpIn_round (hno : ∀ (i : Nat) (o : Oper), ops[i]? = some o → ∀ c, o.op ≠ .defer c) (hL : ¬ LetsOut Q) {i : Nat} {K K' : Act → World → Prop} {a : Act} {w : World} (hK : ∀ a w, K a w → K' a w)
    (h : wpOp P ops Q i K a w) : wpOpIn (Fence.wide.inRound lp) n P ops Q i K' a w := by
  unfold wpOp at h
  unfold wpOpIn
  cases ho : ops[i]? with
  | none => simp only [ho] at h ⊢; exact hK _ _ h
  | some o =>
    simp only [ho] at h ⊢
    by_cases hw : Region.wanted o (yielded ops a.tmps) = true
    · simp only [hw, if_true] at h ⊢
      rcases h with h | ⟨_, h⟩
      · refine ⟨fun _ _ => trivial, ?_⟩
        rw [Oper.semAt_eq _ _ _ (hno i o ho)]
        unfold Oper.wp at h
        generalize (execOp a.eval o).run P w = r at *
        cases r with
        | ok x w' =>
          cases x <;> simp only [Oper.upon, Oper.uponIn] at h ⊢
          case value v => exact hK _ _ h
          case skip => exact hK _ _ h
          case defer d => exact hK _ _ h
          case enter f args =>
            refine ⟨fun hd => (by cases hd), (CallsIn.inRound lp (callsIn_wide.2 h)).mono fun e w'' he => ?_⟩
            cases e with
            | returned v => exact hK _ _ he
            | panicked c => exact he
            | outgrown => exact he
          case row row args =>
            refine ⟨fun hd => (by cases hd), fun c cs _ => ?_⟩
            obtain ⟨v, w'', hR, hs⟩ := h c cs
            exact ⟨v, w'', hK _ _ hR, stepsIn_wide.2 hs⟩
        | halt x w' => cases x <;> simp only [Oper.upon, Oper.uponIn] at h ⊢ <;> exact h
      · exact absurd h hL
    · simp only [hw] at h ⊢
      exact ⟨fun _ _ => trivial, hK _ _ h⟩

theorem wpAnyIn_round (hno : ∀ (i : Nat) (o : Oper), ops[i]? = some o → ∀ c, o.op ≠ .defer c) (hL : ¬ LetsOut Q) {md : Region.Mode} : ∀ (fuel : Nat) (listed : Array Bool) (a : Act) (w : World), wpAny P md ops Q fuel listed a w →
    wpAnyIn (Fence.wide.inRound lp) n P md ops Q fuel listed a w
  | 0, _, _, _, h => h
  | fuel + 1, _, _, _, h => ⟨h.1, fun i hi => wpOpIn_round hno hL (fun a' w' h' => wpAnyIn_round hno hL fuel _ a' w' h') (h.2 i hi)⟩

def noDefer (ops : Array Oper) : Bool := ops.toList.all fun o => match o.op with | .defer _ => false | _ => true
theorem noDefer_spec (h : noDefer ops = true) (i : Nat) (o : Oper) (ho : ops[i]? = some o) (c : Call) : o.op ≠ .defer c := by
  intro e
  have hm : o ∈ ops.toList := by
    rw [Array.mem_toList_iff]; exact Array.mem_of_getElem? ho
  have := List.all_eq_true.1 h o hm
  simp [e] at this

/-- A region that draws its order, in a round: from the plain law of all orders, with what its loads read. -/
theorem wpIn_region_round {id : Nat} {S : World → Prop} {a : Act} {w : World} (hm : P.follows .mixedOrders = true) (hno : noDefer ops = true) (hL : ¬ LetsOut Q) (hS : S w.drew)
    (h : S w.drew → wpAnyH P .any ops Q S ops.size (Array.replicate ops.size false) a w.drew) : (Code.region id ops true).wpIn (Fence.wide.inRound lp) n P Q a w :=
  wpIn_region_any hm (wpAnyIn_round (noDefer_spec hno) hL _ _ _ _ (wpAny_of_held _ _ _ _ (h hS)))
end

/-- append at a step of a region, by an equation on its run. -/
theorem wpstep_append {P : Program} {ops : Array Oper} {o : Oper} {a : Act} {w : World} {K : Act → World → Prop} {Q : Exit → Act → World → Prop} {E : Prop} (hgd : o.guard = none) (s x : Operand) (t : TypeId)
    (ho : o.op = .call { callee := .builtin .append, args := #[s, x], argTypes := #[t, t] }) {v vs v' : Value} {w' : World} (hs : a.eval s = v) (hx : a.eval x = vs)
    (hr : (Builtin.append_ #[t, t] o.type #[v, vs]).run P w = .ok v' w') (h : K (a.put o.dst v') w') : if Region.wanted o (yielded ops a.tmps) = true then Oper.wp P o a w K Q else E := by
  have hw : Region.wanted o (yielded ops a.tmps) = true := by simp [Region.wanted, hgd]
  rw [if_pos hw]
  unfold Oper.wp execOp
  simp only [ho, resolve, invoke, builtin, Sem.run_bind, Sem.run_pure, Result.andThen_ok, List.map_toArray, List.map_cons, List.map_nil, hs, hx, hr]
  exact h

/-- One round of a loop over a function, whose body goes on. -/
theorem yield_round {P : Program} {lp m : Nat} {r : Loop} {args : Array Value} {W : World} {R : Ending → World → Prop} (hl : W.heap[lp]? = some (.loop r)) (hst : r.state = .ready) (hpn : r.pending = none) (hs : args.size = r.params.size)
    (h : ∀ rb : Loop, r.assign.wpIn (Fence.wide.inRound lp) m P (Exit.then (fun a1 W1 => W1.heap[lp]? = some (.loop r) ∧ r.body.wpIn (Fence.wide.inRound lp) m P
        (fun e _ W3 => match e with | .normal => W3.heap[lp]? = some (.loop rb) ∧ R (.returned (.bool true)) (W3.putObj lp (.loop r)) | _ => False) a1 (W1.putObj lp (.loop rb)))
      (fun _ _ _ => False)) { tmps := (r.params.zip args).foldl (fun t (p, v) => t.setIfInBounds p v) r.tmps, defers := [] } W) :
    YieldAt Fence.wide m P lp args W R := by
  refine ⟨r.fn, _, r.assign, r.body, run_yield (P := P) hl hs, roundIn_of_wpIn trivial (wpIn_mono (h { r with state := .busy }) ?_)⟩
  intro e a1 W1 hp
  cases e with
  | normal =>
    obtain ⟨hl1, hb⟩ := hp
    refine ⟨_, run_beginRound hl1 hst, wpIn_mono hb ?_⟩
    intro e a3 W3 hq
    cases e with
    | normal =>
      obtain ⟨hl3, hR⟩ := hq
      refine ⟨_, _, run_endRound (P := P) none hl3, ?_⟩
      have e : ({ r with state := .ready, pending := none } : Loop) = r := by cases r; simp at hst hpn; simp [hst, hpn]
      simp only [Option.isNone_none, if_true]
      rw [e]
      exact hR
    | _ => exact hq.elim
  | _ => exact hp.elim

/-- The statement 'for .. := range f', outermost: the record is laid; f's contract ends with the record ready. -/
theorem wpIn_rangeFunc_wide {P : Program} {g : Operand} {ps : Array Tmp} {assign body : Code} {Q : Exit → Act → World → Prop} {a : Act} {w : World} {m gf : Nat} {lb : Array Value}
    (hg : a.eval g = .func (.func gf) #[] lb) (eg : ∀ args w, (callFunc gf args).run P w = .ok (.enter gf args) w)
    (h : ∀ (rec : Loop) (D : Nat), D = w.heap.size → rec.state = .ready → rec.pending = none → rec.tmps = a.tmps → rec.params = ps → rec.assign = assign → rec.body = body →
      CallsIn Fence.wide m P gf (#[.func (.yield (D + 1)) #[] #[]] ++ lb) ((w.alloc (.deferred (some []))).alloc (.loop rec))
      (fun e W2 => (∃ v, e = .returned v) ∧ W2.heap[D + 1]? = some (.loop rec) ∧
        Q .normal { a with defers := { target := .collected D, args := #[] } :: a.defers } (W2.putObj (D + 1) (.loop { rec with state := .exhausted })))) :
    (Code.rangeFunc g ps assign body).wpIn Fence.wide (m + 1) P Q a w := by
  refine wpIn_rangeFunc ?_
  intro fn _
  have H := h { state := .ready, pending := none, fn := fn, tmps := a.tmps, params := ps, assign := assign, body := body, defers := w.heap.size } w.heap.size rfl rfl rfl rfl rfl rfl rfl
  obtain ⟨W1, hW1⟩ : ∃ W1, (w.alloc (.deferred (some []))).alloc (.loop { state := .ready, pending := none, fn := fn, tmps := a.tmps, params := ps, assign := assign, body := body, defers := w.heap.size }) = W1 := ⟨_, rfl⟩
  rw [hW1] at H
  refine ⟨w.heap.size + 1, [{ target := .collected w.heap.size, args := #[] }], W1, { target := .fn (.func gf) lb, args := #[.func (.yield (w.heap.size + 1)) #[] #[]] }, W1, gf,
    #[.func (.yield (w.heap.size + 1)) #[] #[]] ++ lb, W1, ?_, ?_, fun _ _ => trivial, ?_, fun _ => by omega, ?_⟩
  · rw [← hW1]; exact run_enterLoop_outer _ _ _ _ _
  · simp only [resolve, hg]
    simp [go_sem]
  · simp [invoke, go_sem, eg]
  · refine CallsIn.mono H ?_
    rintro e W2 ⟨⟨v, rfl⟩, hl, hq⟩
    exact ⟨none, _, run_endLoop (P := P) hl (by simp), hq⟩

end Go.Proofs.Ytknmebknkncmoaa
