/- Rows of places, spills and cells that a call makes itself: append, and how they read. No condition. Contract of lex.Tokens at the text "1". No condition. Contracts of lex's number, word and sign at the pieces that the law's formulas have. Conditions: what the package-level variables hold lies as it was laid. What the row of IslandsChain lists: a world in which it lies so; what the walk asks of it. No condition. The closed facts of the program that the row asks, each once: the kernel's memory is given back behind each. No condition. Contracts of lex's number, word and sign at the pieces that the law's formulas have. Conditions: what the package-level variables hold lies as it was laid. -/
import Derived.Test.YtpcjfgihglfdgaaGreatDoorKSpRead
import Derived.Maps.AppendAt
import Derived.Test.YtpcjfgihglfdgaaGreatDoorKChRefC
import Derived.Test.YtpcjfgihglfdgaaGreatDoorKSpName
import Derived.Test.YtpcjfgihglfdgaaGreatDoorCards
import Derived.Test.YtpcjfgihglfdgaaGreatDoorTie
import Derived.SliceStrings
import Derived.ProofKit
import Derived.OpenShut
import Derived.Deep.Slices
import Derived.Deep.Fields
import Derived.Below
import Derived.WideKeyArgs
import Derived.ChangeSame
import Derived.LaidMore
import Derived.Lay
import Derived.Lib.LaidU8
import Derived.PinnedBridge
import Derived.JoinedOf
import Derived.KernelRfl

namespace Go.Proofs.YtpcjfgihglfdgaaGreatDoor
open Go.RowKit Go.Lib

def own (v : Value) : List Nat := v.ownBlock.toList
theorem ownsRow_view {w : World} {base size : Nat} {e : TypeId} {v : Value} {n : Nat} {xs : List Value} (h : w.ownsRow base e size v n xs) : ∃ a c, v = .slice a n c ∧ n ≤ maxLen := by
  rcases h.2 with ⟨rfl, rfl⟩ | ⟨g, cap, cur, rfl, _, _, h1, h2, _⟩
  · exact ⟨_, _, rfl, by simp [maxLen]⟩
  · exact ⟨_, _, rfl, Nat.le_trans h1 h2⟩
theorem ownsRow_low {w : World} {base size : Nat} {e : TypeId} {v : Value} {n : Nat} {xs : List Value} (h : w.ownsRow base e size v n xs) : ∀ g, v.ownBlock = some g → base ≤ g ∧ g < w.heap.size := by
  rcases h.2 with ⟨rfl, rfl⟩ | ⟨g, cap, cur, rfl, hb, hg, _⟩
  · intro g hg; cases hg
  · intro g' hg'; cases hg'; exact ⟨hb, heap_lt hg⟩
theorem ownsRow_lower {w : World} {base base' : Nat} {e : TypeId} {size : Nat} {v : Value} {n : Nat} {xs : List Value} (h : w.ownsRow base e size v n xs) (hb : base' ≤ base) : w.ownsRow base' e size v n xs := by
  refine ⟨h.1, ?_⟩
  rcases h.2 with h0 | ⟨g, cap, cur, rfl, hg, rest⟩
  · exact .inl h0
  · exact .inr ⟨g, cap, cur, rfl, by omega, rest⟩
theorem cells_new (w : World) (cs : List Value) (t : TypeId) : ∀ j u, cs[j]? = some u → (w.alloc (.cells cs.toArray t)).cell? ((⟨w.heap.size, 0, none⟩ : Addr).add j) = some u := by
  intro j u hu
  have h := cell_of (b := w.heap.size) (i := 0 + j) (v := u) (heap_alloc_new w (.cells cs.toArray t)) (by simpa using hu)
  rw [Addr.add_lit]
  exact h
theorem flat_get {k : Nat} : ∀ (L : List (List Value)) (_ : ∀ c ∈ L, c.length = k) (j i : Nat) (cs : List Value), L[j]? = some cs → i < k → (L.flatten)[j * k + i]? = cs[i]?
  | [], _, j, i, cs, h, _ => by simp at h
  | c :: L, hL, 0, i, cs, h, hi => by
    simp only [List.getElem?_cons_zero, Option.some.injEq] at h
    subst h
    have := hL c (by simp)
    rw [List.flatten_cons, List.getElem?_append_left (by omega)]
    simp
  | c :: L, hL, j + 1, i, cs, h, hi => by
    have hc := hL c (by simp)
    have e : (j + 1) * k + i = c.length + (j * k + i) := by rw [hc, Nat.add_mul]; omega
    rw [List.flatten_cons, e, List.getElem?_append_right (by omega), Nat.add_sub_cancel_left]
    exact flat_get L (fun c hc => hL c (by simp [hc])) j i cs (by simpa using h) hi
theorem rowIn_of_own {w : World} {B k : Nat} {e : TypeId} {v : Value} {L : List (List Value)} (hL : ∀ c ∈ L, c.length = k) (h : w.ownsRow B e k v L.length L.flatten) : RowIn w k v L := by
  rcases h.2 with ⟨rfl, h0⟩ | ⟨g, cap, cur, rfl, hb, hg, h1, h2, h3, h4⟩
  · have : L = [] := List.length_eq_zero_iff.1 h0
    subst this
    exact rowIn_nil w k none 0
  · refine ⟨_, cap, g, 0, rfl, by unfold maxLen at h2; omega, fun j cs hj => ⟨rfl, fun i u hu => ?_⟩⟩
    have hk := hL cs (List.mem_of_getElem? hj)
    have hi : i < k := hk ▸ (List.getElem?_eq_some_iff.1 hu).1
    have hjn := (List.getElem?_eq_some_iff.1 hj).1
    have h5 := flat_get L hL j i cs hj hi
    rw [← h4, List.getElem?_take_of_lt (by
      have : (j + 1) * k ≤ L.length * k := Nat.mul_le_mul_right k hjn
      rw [Nat.add_mul] at this
      omega), hu] at h5
    exact cell_of hg (by simpa using h5)
/-- append by a run equation, as one step of a plain walk -/
theorem wpList_append_run {P : Program} {w : World} {ops : Array Oper} {rest : List Oper} {o : Oper} {a : Act} {Q : Exit → Act → World → Prop} (hgd : o.guard = none) (s x : Operand) (t : TypeId)
    (ho : o.op = .call { callee := .builtin .append, args := #[s, x], argTypes := #[t, t] }) (v u : Value) (hs : a.eval s = v) (hx : a.eval x = u) {v' : Value} {w' : World}
    (hr : (Builtin.append_ #[t, t] o.type #[v, u]).run P w = .ok v' w') (h : wpList P ops Q rest (a.put o.dst v') w') : wpList P ops Q (o :: rest) a w := by
  refine wpList_plain hgd fun K hK => ?_
  unfold Oper.wp
  simp [execOp, ho, resolve, invoke, builtin, hs, hx, hr, Result.andThen]
  exact hK _ _ h

theorem ats_info : (Tryz.prog.info? 46).map (fun i => (i.zero, i.size, i.bytes)) = some (some (.agg #[.int .i64 0, .int .i64 0, .int .i64 0]), 3, 24) := by kernel_rfl
/-- a row of the call's own that holds such things -/
def AtsOwn (w : World) (B : Nat) (v : Value) (l : List PAt) : Prop := w.ownsRow B 46 3 v l.length (l.flatMap (atC))
theorem AtsOwn.nil (w : World) (B : Nat) : AtsOwn w B (.slice none 0 0) [] := ⟨rfl, .inl ⟨rfl, rfl⟩⟩
theorem AtsOwn.app {w : World} {B : Nat} {v : Value} {l : List PAt} (h : AtsOwn w B v l) (hB : B ≤ w.heap.size) {m g : Nat} (hml : m = l.length) (hgs : w.heap.size = g) (hm : m ≤ 1000000) (p : PAt) :
    ∃ a c w2, (Builtin.append_ #[29, 29] 29 #[v, .slice (some ⟨g, 0, none⟩) 1 1]).run Tryz.prog (w.alloc (.cells ((atC) p).toArray 46)) = .ok (.slice a (m + 1) c) w2 ∧
      AtsOwn w2 B (.slice a (m + 1) c) (l ++ [p]) ∧ Chg (own v) w w2 ∧ ∀ g, (Value.slice a (m + 1) c).ownBlock = some g → v.ownBlock = some g ∨ w.heap.size ≤ g := by
  subst hml hgs
  obtain ⟨i0, hi, hz0, hz1, hz2⟩ := info_parts ats_info
  obtain ⟨v', w2, h1, h2, h3, _, h5⟩ := run_append_own_at (P := Tryz.prog) (w.alloc (.cells ((atC) p).toArray 46)) B 29 29 46 i0 (.agg #[.int .i64 0, .int .i64 0, .int .i64 0]) 3 24 Tryz.underlying29 hi hz0 hz1 hz2 rfl (by decide) v l.length _ (h.alloc _)
    ⟨w.heap.size, 0, none⟩ 1 1 ((atC) p) rfl (cells_new _ _ _) (by intro u hu; simp [atC] at hu; rcases hu with rfl | rfl | rfl <;> rfl) (by unfold maxLen; omega) (by omega) (by simp; omega)
  obtain ⟨a, c, rfl, _⟩ := ownsRow_view h2
  refine ⟨a, c, w2, h1, ?_, ((Chg.refl _ w).alloc _).grown h3 (fun k hk => .inl (by simp [own, hk])), fun g hg => ?_⟩
  · unfold AtsOwn
    rw [List.length_append, List.flatMap_append]
    simpa using h2
  · rcases h5 with h5 | h5
    · exact .inl (h5 ▸ hg)
    · rw [hg] at h5
      simp only [Option.some.injEq, World.size_alloc] at h5
      exact .inr (by omega)
theorem AtsOwn.view {w : World} {B : Nat} {v : Value} {l : List PAt} (h : AtsOwn w B v l) : ∃ a m c, v = .slice a m c ∧ m = l.length := by
  obtain ⟨a, c, e, -⟩ := ownsRow_view h
  exact ⟨a, _, c, e, rfl⟩
theorem AtsOwn.low {w : World} {B : Nat} {v : Value} {l : List PAt} (h : AtsOwn w B v l) : ∀ g, v.ownBlock = some g → B ≤ g ∧ g < w.heap.size := ownsRow_low h
theorem AtsOwn.chg {w w' : World} {B : Nat} {v : Value} {l : List PAt} {F : List Nat} (h : AtsOwn w B v l) (hc : Chg F w w') (hn : ∀ g, v.ownBlock = some g → g ∉ F) : AtsOwn w' B v l := hc.owns h hn
theorem AtsOwn.below {w w' : World} {B : Nat} {v : Value} {l : List PAt} (h : AtsOwn w B v l) (hb : Below w.heap.size w w') : AtsOwn w' B v l := h.chg (F := []) (Chg.of_below hb) (by simp)
theorem AtsOwn.read {w : World} {B : Nat} {v : Value} {l : List PAt} (h : AtsOwn w B v l) : AtsIn w v l := rowIn_of_own (L := l.map (atC)) (by intro c hc; obtain ⟨q, -, rfl⟩ := List.mem_map.1 hc; rfl) (by simpa [List.flatMap_map, AtsOwn, List.flatMap_def, Function.comp_def] using h)

theorem cls_info : (Tryz.prog.info? 28).map (fun i => (i.zero, i.size, i.bytes)) = some (some (.agg #[.int .i64 0, .int .i64 0, .string ⟨#[]⟩]), 3, 32) := by kernel_rfl
/-- a row of the call's own that holds such things -/
def ClsOwn (w : World) (B : Nat) (v : Value) (tx : PAt → ByteArray) (l : List PAt) : Prop := w.ownsRow B 28 3 v l.length (l.flatMap (cellC tx))
theorem ClsOwn.nil (tx : PAt → ByteArray) (w : World) (B : Nat) : ClsOwn w B (.slice none 0 0) tx [] := ⟨rfl, .inl ⟨rfl, rfl⟩⟩
theorem ClsOwn.app {w : World} {B : Nat} {v : Value} {tx : PAt → ByteArray} {l : List PAt} (h : ClsOwn w B v tx l) (hB : B ≤ w.heap.size) {m g : Nat} (hml : m = l.length) (hgs : w.heap.size = g) (hm : m ≤ 1000000) (p : PAt) :
    ∃ a c w2, (Builtin.append_ #[23, 23] 23 #[v, .slice (some ⟨g, 0, none⟩) 1 1]).run Tryz.prog (w.alloc (.cells ((cellC tx) p).toArray 28)) = .ok (.slice a (m + 1) c) w2 ∧
      ClsOwn w2 B (.slice a (m + 1) c) tx (l ++ [p]) ∧ Chg (own v) w w2 ∧ ∀ g, (Value.slice a (m + 1) c).ownBlock = some g → v.ownBlock = some g ∨ w.heap.size ≤ g := by
  subst hml hgs
  obtain ⟨i0, hi, hz0, hz1, hz2⟩ := info_parts cls_info
  obtain ⟨v', w2, h1, h2, h3, _, h5⟩ := run_append_own_at (P := Tryz.prog) (w.alloc (.cells ((cellC tx) p).toArray 28)) B 23 23 28 i0 (.agg #[.int .i64 0, .int .i64 0, .string ⟨#[]⟩]) 3 32 Tryz.underlying23 hi hz0 hz1 hz2 rfl (by decide) v l.length _ (h.alloc _)
    ⟨w.heap.size, 0, none⟩ 1 1 ((cellC tx) p) rfl (cells_new _ _ _) (by intro u hu; simp [cellC] at hu; rcases hu with rfl | rfl | rfl <;> rfl) (by unfold maxLen; omega) (by omega) (by simp; omega)
  obtain ⟨a, c, rfl, _⟩ := ownsRow_view h2
  refine ⟨a, c, w2, h1, ?_, ((Chg.refl _ w).alloc _).grown h3 (fun k hk => .inl (by simp [own, hk])), fun g hg => ?_⟩
  · unfold ClsOwn
    rw [List.length_append, List.flatMap_append]
    simpa using h2
  · rcases h5 with h5 | h5
    · exact .inl (h5 ▸ hg)
    · rw [hg] at h5
      simp only [Option.some.injEq, World.size_alloc] at h5
      exact .inr (by omega)
theorem ClsOwn.view {w : World} {B : Nat} {v : Value} {tx : PAt → ByteArray} {l : List PAt} (h : ClsOwn w B v tx l) : ∃ a m c, v = .slice a m c ∧ m = l.length := by
  obtain ⟨a, c, e, -⟩ := ownsRow_view h
  exact ⟨a, _, c, e, rfl⟩
theorem ClsOwn.low {w : World} {B : Nat} {v : Value} {tx : PAt → ByteArray} {l : List PAt} (h : ClsOwn w B v tx l) : ∀ g, v.ownBlock = some g → B ≤ g ∧ g < w.heap.size := ownsRow_low h
theorem ClsOwn.chg {w w' : World} {B : Nat} {v : Value} {tx : PAt → ByteArray} {l : List PAt} {F : List Nat} (h : ClsOwn w B v tx l) (hc : Chg F w w') (hn : ∀ g, v.ownBlock = some g → g ∉ F) : ClsOwn w' B v tx l := hc.owns h hn
theorem ClsOwn.below {w w' : World} {B : Nat} {v : Value} {tx : PAt → ByteArray} {l : List PAt} (h : ClsOwn w B v tx l) (hb : Below w.heap.size w w') : ClsOwn w' B v tx l := h.chg (F := []) (Chg.of_below hb) (by simp)
theorem ClsOwn.lower {w : World} {B B' : Nat} {v : Value} {tx : PAt → ByteArray} {l : List PAt} (h : ClsOwn w B v tx l) (hb : B' ≤ B) : ClsOwn w B' v tx l := ownsRow_lower h hb
theorem ClsOwn.read {w : World} {B : Nat} {v : Value} {tx : PAt → ByteArray} {l : List PAt} (h : ClsOwn w B v tx l) : CellsIn w v tx l := rowIn_of_own (L := l.map (cellC tx)) (by intro c hc; obtain ⟨q, -, rfl⟩ := List.mem_map.1 hc; rfl) (by simpa [List.flatMap_map, ClsOwn, List.flatMap_def, Function.comp_def] using h)
end Go.Proofs.YtpcjfgihglfdgaaGreatDoor

namespace Go.Proofs.YtpcjfgihglfdgaaGreatDoor
open Go.RowKit Go.Lib

theorem tok_info : (Tryz.prog.info? 185).map (fun i => (i.zero, i.size, i.bytes)) = some (some (.agg #[.int .i64 0, .string ⟨#[]⟩, .int .i64 0]), 3, 32) := by kernel_rfl
end Go.Proofs.YtpcjfgihglfdgaaGreatDoor

namespace Go.Proofs.YtpcjfgihglfdgaaGreatDoor
open Go.RowKit Go.Lib

def signsL : List (List UInt8) := [[60, 62], [60, 61], [62, 61], [61], [60], [62], [38], [43], [45], [42], [47], [94], [37], [40], [41], [44], [59], [58], [123], [125]]
/-- what lies as it was laid: utf8's tables, the signs, the index's errors -/
structure Env (w : World) : Prop where
  tabs : Tabs w
  signs : ∃ b off c, w.cell? ⟨4, 0, none⟩ = some (.slice (some ⟨b, off, none⟩) 20 c) ∧ ∀ j s, signsL[j]? = some s → w.cell? ⟨b, off + j, none⟩ = some (.string (bs s))
  errArg : ∃ t v, w.cell? ⟨0, 0, none⟩ = some (.iface t v)
  errHas : ∃ t v, w.cell? ⟨1, 0, none⟩ = some (.iface t v)
theorem cell_keep {w w' : World} {p : Addr} {v : Value} (h : w.cell? p = some v) (hb : Below w.heap.size w w') : w'.cell? p = some v := (hb.cell (World.block_lt_of_cell? _ _ h)).trans h
theorem Env.below {w w' : World} (h : Env w) (hb : Below w.heap.size w w') : Env w' where
  tabs := h.tabs.below hb
  signs := by
    obtain ⟨b, off, c, h1, h2⟩ := h.signs
    exact ⟨b, off, c, cell_keep h1 hb, fun j s hj => cell_keep (h2 j s hj) hb⟩
  errArg := by
    obtain ⟨t, v, h1⟩ := h.errArg
    exact ⟨t, v, cell_keep h1 hb⟩
  errHas := by
    obtain ⟨t, v, h1⟩ := h.errHas
    exact ⟨t, v, cell_keep h1 hb⟩
set_option maxHeartbeats 400000 in
theorem isRef_any (n : Nat) (h1 : 1 ≤ n) (h2 : n ≤ 33) (w : World) (hT : Tabs w) : Calls Tryz.prog 264 #[.string (bs (refB n))] w fun e w' => e = .returned (.bool true) ∧ Below w.heap.size w w' := by
  have H := hid (refRead_any n h1 h2 w hT)
  clear hT
  go_enter Tryz.func264, Tryz.ntmps264
  go_wp2_with fail
  refine H.out.mono ?_
  rintro e w1 ⟨rfl, b1⟩
  go_wp2_with fail
  go_ret
  exact ⟨rfl, b1.alloc b1.size _⟩
set_option maxRecDepth 100000 in
set_option maxHeartbeats 1000000 in
theorem indexByte_SUM (w : World) : Calls Tryz.prog 323 #[.string textSUM, .int .u8 36] w fun e w' => e = .returned (.int .i64 (-1)) ∧ w = w' := by
  go_enter Tryz.func323, Tryz.ntmps323
  go_wp2
  rw [run_callFunc_extern Tryz.func351 (by kernel_rfl) (by kernel_rfl) (by kernel_rfl) (e := Extern.BytealgIndexByte.indexByte) (by kernel_rfl), Lib.run_indexByteString]
  simp only [Result.andThen]
  rw [Oper.upon_value]
  go_wp2
  go_ret
  exact ⟨rfl, rfl⟩
set_option maxRecDepth 100000 in
set_option maxHeartbeats 1000000 in
theorem contains_SUM (w : World) : Calls Tryz.prog 240 #[.string textSUM, .string ⟨#[36]⟩] w fun e w' => e = .returned (.bool false) ∧ w = w' := by
  have H := hid (fun w => indexByte_SUM w)
  have h3 : textSUM.size = 3 := rfl
  have hne : ([36] == textSUM.toList) = false := by kernel_rfl
  have hne' : ([36] : List UInt8) ≠ textSUM.toList := by rw [bs_toList]; decide
  go_enter Tryz.func240, Tryz.ntmps240
  go_wp2_with (first | (go_at_call 323; refine (H.out _).mono ?_; rintro e w1 ⟨rfl, rfl⟩) | go_in)
  go_ret
  exact ⟨rfl, rfl⟩
set_option maxRecDepth 100000 in
set_option maxHeartbeats 1000000 in
theorem callable_SUM (w : World) : Calls Tryz.prog 261 #[.string textSUM] w fun e w' => e = .returned (.bool true) ∧ Below w.heap.size w w' := by
  have H := hid (fun w => contains_SUM w)
  have HW := hid (fun w => while_any 209 (.inr rfl) wordyB (hid lexWordy_any) [83, 85, 77] (by decide) w)
  have h3 : textSUM.size = 3 := rfl
  have hix := index_bs0 (l := [83, 85, 77]) (b := 83) rfl
  have hD := hid (fun w => lexDigit_any 83 w)
  have e83 : ((83 : UInt8).toNat : Int) = 83 := rfl
  rw [e83] at hix
  clear e83
  go_enter Tryz.func261, Tryz.ntmps261
  go_wp2_with fail
  refine (HW.out _).mono ?_
  rintro e w1 ⟨rfl, b1⟩
  have ht : ([83, 85, 77] : List UInt8).takeWhile wordyB = [83, 85, 77] := by decide
  rw [ht]
  clear ht
  go_wp2_with fail
  refine (H.out _).mono ?_
  rintro e w2 ⟨rfl, rfl⟩
  go_wp2_with fail
  refine (hD.out _).mono ?_
  rintro e w2 ⟨rfl, rfl⟩
  go_wp2_with fail
  go_ret
  exact ⟨rfl, b1⟩
end Go.Proofs.YtpcjfgihglfdgaaGreatDoor

namespace Go.Proofs.YtpcjfgihglfdgaaGreatDoor
open Go.ChangeShapes Go.WideShapes Go.Deep Go.RowKit Go.Lib Go.ChangeAt

section
variable {H : Type} {enc : TypeId × Value → H} {P : Program} {w : World} {base : Nat} {spare : Nat → Bool} {held : Bool}
theorem post_of_below {f : Func} {s : ChangeSpec} {apart fresh handsOn again : Bool} {W W' : World} {args : Array Value} {v : Value} {ds gs : List (DataW H)} {before pa pv : List MemPlace}
    (hW : DataW.Whole enc P f.params.toList s.vars apart W args.toList ds gs before)
    (hres : ∀ (b : Nat) (sp : Nat → Bool) (hd : Bool), DataW.TrodAll enc P W' b sp hd f.resultTypes.toList (v.resultList f.resultTypes.size) (s.fn H (ds ++ gs)).results [])
    (hargs : ∀ sp : Nat → Bool, (∀ p ∈ before, sp p.block = true) → DataW.TrodAll enc P W' 0 sp true f.params.toList args.toList (s.fn H (ds ++ gs)).args pa)
    (hvars : ∀ sp : Nat → Bool, (∀ p ∈ before, sp p.block = true) → DataW.TrodVars enc P W' sp s.vars (s.fn H (ds ++ gs)).vars pv)
    (hps : before = pa ++ pv) (hb : Below W.heap.size W W')
    (hok : ∀ (j : Nat) (t : TypeId) (r : Value), f.resultTypes[j]? = some t → (v.resultList f.resultTypes.size)[j]? = some r → Value.okWide P W' .any 0 t r) :
    s.post enc P f apart fresh handsOn again W args v W' := by
  have hlt : ∀ p ∈ before, p.block < W.heap.size := fun p hp => hW.lt p hp
  have hold : ∀ p ∈ before, (fun b => decide (b < W.heap.size)) p.block = true := fun p hp => by simpa using hlt p hp
  refine ⟨ds, gs, before, [], pa, pv, hW, hres _ _ _, hargs _ hold, hvars _ hold, World.keptBut_mono (fun p hp => ⟨hp, ?_⟩) (hb.frame (· ∈ before)), fun _ => ?_⟩
  · rw [hps, List.mem_append] at hp
    exact Or.inr hp
  · obtain ⟨_, _, _, _, _, hz, hn⟩ := hW
    refine ⟨hok, _, _, ([] ++ pa) ++ pv, ⟨[] ++ pa, pv, trodAll_append (hargs _ (fun _ _ => rfl)) (hres _ _ _), hvars _ (fun _ _ => rfl), rfl, ?_, ?_⟩, ?_⟩
    · intro b off hp
      have hin : MemPlace.cell b off ∈ before := by rw [hps]; simpa using hp
      rw [hb.frozen (hlt _ hin)]
      exact hz b off hin
    · intro ha
      have := hn ha
      rw [hps] at this
      simpa using this
    · intro p hp _
      rw [hps]
      simpa using hp
end

theorem Tryz.own : ownKnob Tryz.prog.godebug = none := by kernel_rfl
noncomputable abbrev laidList : List (String × DataW Unit) := Rows.islandsChainRow.laid
theorem laid_plain (w : World) : laidMetH Tryz.prog laidList w = laidMet Tryz.prog laidList w := MakeChecks.laidMetH_plain _ _ _ (by kernel_rfl)
theorem laid_met (os : Os) (args : Array Value) : laidMetH Tryz.prog laidList ((World.laidAll Tryz.prog os laidList).forCall (fun _ _ => 0) ⟨#[], args, []⟩).memory := by
  rw [laid_plain]
  exact laidMet_laidAll _ (by kernel_rfl) (by kernel_rfl)
theorem laid_shaped (os : Os) (args : Array Value) : ((World.laidAll Tryz.prog os laidList).forCall (fun _ _ => 0) ⟨#[], args, []⟩).Shaped Tryz.prog := World.shaped_of_ZipB (by kernel_rfl) (by kernel_rfl)
theorem tabs_of_laid {W : World} (h : laidMet Tryz.prog laidList W) : Tabs W := by
  refine utf8Tabs_of_reads (ρ := laysMap_ren) { laysMap with } ⟨by kernel_rfl, by kernel_rfl, by kernel_rfl, by kernel_rfl, by kernel_rfl, by kernel_rfl, by kernel_rfl⟩ ?_ ?_
  · rw [← Pinned.utf8First_eq]
    exact laidMet.reads h (n := "unicode/utf8.first") (by simp [laidList, Rows.islandsChainRow, Rows.laid_unicode_utf8_first])
  · have e : acceptData = Rows.laid_unicode_utf8_acceptRanges := by kernel_rfl
    rw [e]
    exact laidMet.reads h (n := "unicode/utf8.acceptRanges") (by simp [laidList, Rows.islandsChainRow])
theorem iface_reads {P : Program} {w : World} {n nm : String} {g : Nat} {t : TypeId} {ms : Array (String × TypeId)} {d : DataW Unit} (hg : P.globalNamed n = some g) (ht : (P.globals[g]?).map (·.type) = some t) (hu : P.underlying t = some (.interface ms)) (h : VarReads P w n (.iface nm d)) :
    ∃ u v, w.cell? ⟨g, 0, none⟩ = some (.iface u v) := by
  obtain ⟨g', t', cs, fuel, p, e1, e2, hv, hd⟩ := h
  obtain rfl := Option.some.inj (hg.symm.trans e1)
  obtain rfl := Option.some.inj (ht.symm.trans e2)
  cases fuel with
  | zero => simp [DataW.trod] at hd
  | succ m =>
    have h0 := World.var?_cell hg hv 0
    rw [← Array.getElem?_toList] at h0
    generalize cs.toList = l at h0 hd
    rcases l with _ | ⟨a, _ | ⟨b, r⟩⟩
    · simp [DataW.trod, hu] at hd
    · cases a with
      | iface u v => exact ⟨u, v, h0⟩
      | _ => simp [DataW.trod, hu] at hd
    · cases a <;> simp [DataW.trod, hu] at hd
theorem strs_inj {a b : List ByteArray} (h : (strs a : List (DataW Unit)) = strs b) : a = b := by
  unfold strs at h
  exact (List.map_inj_right (fun x y hxy => by
    have h1 : x.data.toList = y.data.toList := by simpa using hxy
    exact ByteArray.ext (Array.toList_inj.1 h1))).1 h
theorem env_of_laid {W : World} (h : laidMetH Tryz.prog laidList W) : Env W := by
  rw [laid_plain] at h
  refine ⟨tabs_of_laid h, ?_, ?_, ?_⟩
  · have hr := laidMet.reads h (n := "tabula/lex.signs") (d := Rows.laid_tabula_lex_signs) (by simp [laidList, Rows.islandsChainRow])
    obtain ⟨g', t', cs, fuel, p, e1, e2, hv, hd⟩ := hr
    have hg : Tryz.prog.globalNamed "tabula/lex.signs" = some 4 := by kernel_rfl
    have ht : (Tryz.prog.globals[4]?).map (·.type) = some 151 := by kernel_rfl
    obtain rfl := Option.some.inj (hg.symm.trans e1)
    obtain rfl := Option.some.inj (ht.symm.trans e2)
    have h0 := World.var?_cell hg hv 0
    rw [← Array.getElem?_toList] at h0
    rcases open_strings Tryz.underlying151 Tryz.underlying9 (by kernel_rfl) hd with ⟨-, hx⟩ | ⟨a, len, cap, ss, hcs, -, hl, hm, hz, hx, hcell, -⟩
    · simp [Rows.laid_tabula_lex_signs] at hx
    · rw [hcs] at h0
      have e3 : (Rows.laid_tabula_lex_signs : DataW Unit) = .slice (strs (signsL.map bs)) [] := rfl
      rw [e3] at hx
      simp only [Prod.mk.injEq, DataW.slice.injEq] at hx
      have hss := strs_inj hx.1.1.symm
      have hn : ss.drop len = [] := by
        have := hx.1.2.symm
        unfold strs at this
        exact List.map_eq_nil_iff.1 this
      have hss2 : ss = signsL.map bs := by
        rw [← List.take_append_drop len ss, hn, List.append_nil]
        exact hss
      have hlen : len = 20 := by
        have h1 := congrArg List.length hss
        rw [List.length_take, List.length_map] at h1
        have h2 : signsL.length = 20 := rfl
        have h3 : ss.length = 20 := by rw [hss2, List.length_map]; exact h2
        have h4 : (ss.drop len).length = 0 := by rw [hn]; rfl
        rw [List.length_drop] at h4
        have h5 : len ≤ ss.length := by rw [hz]; split <;> omega
        omega
      subst hlen
      obtain ⟨b, off, sp⟩ := a
      have c0 := hcell 0 (by rw [hss2]; decide)
      have hsp : sp = none := by simpa [Addr.add] using World.cell?_spot c0
      subst hsp
      refine ⟨b, off, cap, h0, fun j s hj => ?_⟩
      have hj' := (List.getElem?_eq_some_iff.1 hj).1
      have c1 := hcell j (by rw [hss2, List.length_map]; exact hj')
      rw [Addr.add_lit] at c1
      rw [c1, hss2]
      simp [hj]
  · exact iface_reads (n := "tabula/index.errArg") (t := 123) (by kernel_rfl) (by kernel_rfl) Tryz.underlying123 (laidMet.reads h (n := "tabula/index.errArg") (d := Rows.laid_tabula_index_errArg) (by simp [laidList, Rows.islandsChainRow]))
  · exact iface_reads (n := "tabula/index.errHas") (t := 123) (by kernel_rfl) (by kernel_rfl) Tryz.underlying123 (laidMet.reads h (n := "tabula/index.errHas") (d := Rows.laid_tabula_index_errHas) (by simp [laidList, Rows.islandsChainRow]))
end Go.Proofs.YtpcjfgihglfdgaaGreatDoor

namespace Go.Proofs.YtpcjfgihglfdgaaGreatDoor
open Go

theorem and_both {a b : Bool} (ha : a = true) (hb : b = true) : (a && b) = true := by subst ha hb; rfl

theorem goesBy_none {c : OpenClaim} {P : Program} (hs : c.start = .entering) (h : P.funcs.any Func.goes = false) : false = c.goesBy P := by
  have hall : ∀ g : Nat, (P.funcs[g]?).any Func.goes = false := by
    intro g
    cases hg : P.funcs[g]? with
    | none => rfl
    | some fn =>
      rw [Option.any_some]
      have hm : fn ∈ P.funcs := Array.mem_of_getElem? hg
      rw [Array.any_eq_false] at h
      obtain ⟨i, hi, rfl⟩ := Array.mem_iff_getElem.1 hm
      simpa using h i hi
  have hgoes : ∀ f, P.goes f = false := by
    intro f
    unfold Program.goes
    rw [h, Bool.and_false, Bool.or_false, List.any_eq_false]
    intro g _
    simp [hall g]
  unfold OpenClaim.goesBy Program.goesAt Program.goesFrom
  rw [hs]
  cases P.funcNamed c.func with
  | none => rfl
  | some f => simp [hgoes f]

theorem no_goes : Tryz.prog.funcs.any Func.goes = false := by kernel_rfl
theorem laid_out : laidOutB Tryz.prog = true := by kernel_rfl
theorem maps_rowed : mapsRowed Tryz.prog = true := by kernel_rfl
theorem stops_heard : Tryz.prog.stopsHeard = true := by kernel_rfl
theorem may_enter : Tryz.prog.mayEnter = true := by kernel_rfl
theorem lifts_final : (Rows.islandsChainRow.lifted == Tryz.prog.liftsFinal) = true := by kernel_rfl
theorem make_is : (Tryz.prog.make == some Rows.islandsChainRow.make) = true := by kernel_rfl
theorem looks_on : true = Tryz.prog.looks [] := by kernel_rfl
theorem main_is : Tryz.prog.mainIs = some (true, "c5d5f39071bb045ed6705fabfe8966998c565a72f3b36533090a16b80d88d28b".toList) := by kernel_rfl
end Go.Proofs.YtpcjfgihglfdgaaGreatDoor

namespace Go.Proofs.YtpcjfgihglfdgaaGreatDoor
open Go.RowKit Go.Lib

abbrev tokZ : List Value := [.int .i64 0, .string ⟨#[]⟩, .int .i64 0]
/-- the reader, and a block of the call's own, while the call goes -/
structure La (l : List UInt8) (a : Nat) (w : World) (r : Nat) (y : World) : Prop where
  at' : LexR l y r a
  own : y.heap[w.heap.size]? = some (.cells tokZ.toArray 185 (0, 0))
  env : Env y
  low : Below w.heap.size w y
theorem La.keep {l : List UInt8} {a : Nat} {w y z : World} {r : Nat} (h : La l a w r y) (hb : Below y.heap.size y z) : La l a w r z :=
  ⟨h.at'.keep hb, (hb.block _ (heap_lt h.own)).trans h.own, h.env.below hb, h.low.trans (hb.mono h.low.size)⟩
theorem La.start {l : List UInt8} {a : Nat} {w : World} {r : Nat} (h : LexR l w r a) (he : Env w) : La l a w r (w.alloc (.cells tokZ.toArray 185)) :=
  ⟨heap_alloc_keep h _, heap_alloc_new w _, he.below ((Below.refl _ w).alloc (Nat.le_refl _) _), (Below.refl _ w).alloc (Nat.le_refl _) _⟩
theorem tok_info3 (k : Int) (s : ByteArray) (a : Nat) : (Tryz.prog.info? 185).map (·.size) = some (tokV k s a).toArray.size := by
  have : (Tryz.prog.info? 185).map (·.size) = some 3 := by kernel_rfl
  rw [this]
  rfl
theorem tok_one3 (k : Int) (s : ByteArray) (a : Nat) : (tokV k s a).toArray.all (·.oneCell') = true := by simp [Value.oneCell']
/-- the answer laid into the call's own block, behind the reader's step -/
theorem la_end {l : List UInt8} {a n : Nat} {w y z : World} {r : Nat} (h : La l a w r y) (h1 : LexR l z r (a + n)) (hc : Chg [r] y z) (hr : r < w.heap.size) (cs : Array Value) :
    z.heap[w.heap.size]? = some (.cells tokZ.toArray 185 (0, 0)) ∧ LexR l (z.setRow w.heap.size cs) r (a + n) ∧ Chg [r] w (z.setRow w.heap.size cs) :=
  ⟨(hc.block _ (heap_lt h.own) (by simp; omega)).trans h.own, heap_setRow_far h1 (by omega) _, ((Chg.of_below (F := [r]) h.low).trans hc (by simp)).setRow (.inr (Nat.le_refl _)) _⟩
theorem head_not_prefix {c : UInt8} {R : List UInt8} (h : R.head? ≠ some c) : ([c] : List UInt8).isPrefixOf R = false := by
  cases R with
  | nil => rfl
  | cons b R =>
    simp only [List.head?_cons, ne_eq, Option.some.injEq] at h
    simp [List.isPrefixOf, Ne.symm h]
theorem takeWhile_span {f : UInt8 → Bool} {p r : List UInt8} (hp : ∀ b ∈ p, f b = true) (hr : ∀ b, r.head? = some b → f b = false) : (p ++ r).takeWhile f = p := by
  rw [List.prefix_iff_eq_take.1 (List.takeWhile_prefix f), ← span, span_is hp hr]
  simp

set_option maxRecDepth 20000 in
set_option maxHeartbeats 1000000 in
theorem number_any {l : List UInt8} {w : World} {r a : Nat} (h : LexR l w r a) (he : Env w) (R : List UInt8) (hl : l.drop a = 49 :: R) (hA : ∀ b ∈ l, b.toNat < 128) (hd : ∀ b, R.head? = some b → digitB b = false) (h46 : R.head? ≠ some 46) (hb : l.length ≤ 1000) :
    Calls Tryz.prog 205 #[.pointer (some ⟨r, 0, none⟩)] w (LexNext l w r 1 (bs [49]) a 1) := by
  have hr := heap_lt h
  have hal : a < l.length := by
    rcases Nat.lt_or_ge a l.length with h | h
    · exact h
    · rw [List.drop_eq_nil_of_le h] at hl
      cases hl
  have H0 := hid (La.start h he)
  have hA' : ∀ b ∈ (49 : UInt8) :: R, b.toNat < 128 := fun b hb => hA b (List.mem_of_mem_drop (hl ▸ hb))
  have HW := hid (fun w => while_any 204 (.inl rfl) digitB (hid lexDigit_b) (49 :: R) hA' w)
  have HP := hid (fun w => cutPrefix_no R [46] (head_not_prefix h46) w)
  have ht : ((49 : UInt8) :: R).takeWhile digitB = [49] := takeWhile_span (p := [49]) (by decide) hd
  have HT := hid ht
  have hs1 : (bs [49]).size = 1 := rfl
  have hsz : (bs (49 :: R)).size = R.length + 1 := by rw [bs_size]; rfl
  have hx : (bs (49 :: R)).extract 1 (R.length + 1) = bs R := by rw [bs_extract]; simp
  have HB := hid (show a + 1 < 2 ^ 62 by omega)
  obtain ⟨m, hm⟩ : ∃ m, m = R.length := ⟨_, rfl⟩
  rw [← hm] at hsz hx
  have HL := hid hl
  have HAL := hid (Nat.le_of_lt hal)
  clear h he hl hA hA' hd h46 ht hb hal hm
  go_enter Tryz.func205, Tryz.ntmps205
  go_wp2_with fail
  generalize World.alloc _ _ = w0 at H0 ⊢
  refine (lexRest_any H0.out.at' HAL.out).mono ?_
  rintro e w1 ⟨rfl, b1⟩
  have H1 := hid (H0.out.keep b1)
  clear b1 H0
  rw [HL.out]
  go_wp2_with fail
  refine (HW.out _).mono ?_
  rintro e w2 ⟨rfl, b2⟩
  have H2 := hid (H1.out.keep b2)
  clear b2 H1
  rw [HT.out]
  go_wp2_with fail
  refine (lexRest_any H2.out.at' HAL.out).mono ?_
  rintro e w3 ⟨rfl, b3⟩
  have H3 := hid (H2.out.keep b3)
  clear b3 H2
  rw [HL.out]
  go_wp2_with fail
  refine (HP.out _).mono ?_
  rintro e w4 ⟨rfl, rfl⟩
  go_wp2_with fail
  refine (decRead_one _).mono ?_
  rintro e w5 ⟨rfl, b5⟩
  have H5 := hid (H3.out.keep b5)
  clear b5 H3
  go_wp2_with fail
  have H6 := hid (H5.out.keep ((Below.refl w5.heap.size w5).alloc (Nat.le_refl _) (.cells #[.int .i64 1, .int .i64 0] 75)))
  generalize World.alloc _ _ = w6 at H6 ⊢
  clear H5
  refine (tok_any H6.out.at' 1 (bs [49]) 1 (by decide) HB.out).mono ?_
  rintro e w7 ⟨rfl, h7, c7⟩
  have HE := hid (la_end H6.out h7 c7 hr (tokV 1 (bs [49]) a).toArray)
  clear h7 c7 H6
  go_wp2_with (refine wpList_store_row rfl 185 _ _ rfl w.heap.size (tokV 1 (bs [49]) a).toArray rfl rfl 185 _ HE.out.1 (tok_info3 1 (bs [49]) a) (by rfl) (tok_one3 1 (bs [49]) a) ?_)
  refine bodyPost_ret (v := .tuple #[.agg (tokV 1 (bs [49]) a).toArray, .bool true]) (results_rowt rfl _ _ w.heap.size _ _ rfl rfl (run_loadVar_row (P := Tryz.prog) _ w.heap.size 185 185 (tokV 1 (bs [49]) a).toArray (0, 0) _ (heap_setRow_at HE.out.1) Tryz.underlying185 rfl (tok_info3 1 (bs [49]) a))) rfl ?_
  exact ⟨rfl, HE.out.2⟩
end Go.Proofs.YtpcjfgihglfdgaaGreatDoor
