/- The arguments of the Spill laws, opened: slices of places, of pairs, of spills; what the rows' last step needs. No condition. -/
import Derived.Test.YthkjmplcmfabfaaGreatDoorSpOwnW
import Derived.ProofKit
import Derived.OpenShut
import Derived.Deep.Slices
import Derived.Deep.Fields
import Derived.Below
import Derived.WideKeyArgs
import Derived.ChangeSame
import Derived.LaidMore
import Derived.Lay
import Derived.Lib.LaidU8
import Derived.PinnedBridge
namespace Go.Proofs.YthkjmplcmfabfaaGreatDoor
open Go.ChangeShapes Go.WideShapes Go.Deep Go.RowKit Go.Lib Go.ChangeAt

section
variable {H : Type} {enc : TypeId × Value → H} {P : Program} {w : World} {base : Nat} {spare : Nat → Bool} {held : Bool}
theorem post_of_below {f : Func} {s : ChangeSpec} {apart fresh handsOn again : Bool} {W W' : World} {args : Array Value} {v : Value} {ds gs : List (DataW H)} {before pa pv : List MemPlace}
    (hW : DataW.Whole enc P f.params.toList s.vars apart W args.toList ds gs before)
    (hres : ∀ (b : Nat) (sp : Nat → Bool) (hd : Bool), DataW.TrodAll enc P W' b sp hd f.resultTypes.toList (v.resultList f.resultTypes.size) (s.fn H (ds ++ gs)).results [])
    (hargs : ∀ sp : Nat → Bool, (∀ p ∈ before, sp p.block = true) → DataW.TrodAll enc P W' 0 sp true f.params.toList args.toList (s.fn H (ds ++ gs)).args pa)
    (hvars : ∀ sp : Nat → Bool, (∀ p ∈ before, sp p.block = true) → DataW.TrodVars enc P W' sp s.vars (s.fn H (ds ++ gs)).vars pv)
    (hps : before = pa ++ pv) (hb : Below W.heap.size W W')
    (hok : ∀ (j : Nat) (t : TypeId) (r : Value), f.resultTypes[j]? = some t → (v.resultList f.resultTypes.size)[j]? = some r → Value.okWide P W' .any 0 t r) :
    s.post enc P f apart fresh handsOn again W args v W' := by
  have hlt : ∀ p ∈ before, p.block < W.heap.size := fun p hp => hW.lt p hp
  have hold : ∀ p ∈ before, (fun b => decide (b < W.heap.size)) p.block = true := fun p hp => by simpa using hlt p hp
  refine ⟨ds, gs, before, [], pa, pv, hW, hres _ _ _, hargs _ hold, hvars _ hold, World.keptBut_mono (fun p hp => ⟨hp, ?_⟩) (hb.frame (· ∈ before)), fun _ => ?_⟩
  · rw [hps, List.mem_append] at hp
    exact Or.inr hp
  · obtain ⟨_, _, _, _, _, hz, hn⟩ := hW
    refine ⟨hok, _, _, ([] ++ pa) ++ pv, ⟨[] ++ pa, pv, trodAll_append (hargs _ (fun _ _ => rfl)) (hres _ _ _), hvars _ (fun _ _ => rfl), rfl, ?_, ?_⟩, ?_⟩
    · intro b off hp
      have hin : MemPlace.cell b off ∈ before := by rw [hps]; simpa using hp
      rw [hb.frozen (hlt _ hin)]
      exact hz b off hin
    · intro ha
      have := hn ha
      rw [hps] at this
      simpa using this
    · intro p hp _
      rw [hps]
      simpa using hp

theorem trod_later {t : TypeId} (hl : laidOutB P = true) (hr : P.readableRec t = true) (hrow : t < P.types.size) {W W' : World} {v : Value} {d : DataW H} {ps before : List MemPlace} (h : DataW.Trod enc P W 0 (fun _ => true) true t v d ps)
    (hb : Below W.heap.size W W') (hlt : ∀ x ∈ before, x.block < W.heap.size) {sp : Nat → Bool} (hsp : ∀ x ∈ before, sp x.block = true) (hin : ∀ x ∈ ps, x ∈ before) : DataW.Trod enc P W' 0 sp true t v d ps :=
  WideElems.Trod_stays hl hr hrow h (fun x hx => hb.same (hlt x (hin x hx))) (fun x hx => hsp x (hin x hx))
theorem wfInt {n : Int} (h : (Lit.int .i64 n).wf = true) : -9223372036854775808 ≤ n ∧ n ≤ 9223372036854775807 := by
  simp only [Lit.wf, Bool.and_eq_true, decide_eq_true_eq] at h
  exact h

/-- what is read at a type is so many ints -/
def IntsOf (P : Program) (t : TypeId) (k : Nat) : Prop :=
  P.cellsOf t = k ∧ ∀ {H : Type} (enc : TypeId × Value → H) (w : World) (base : Nat) (spare : Nat → Bool) (held : Bool) (fuel : Nat) (cs : List Value) (x : DataW H × List MemPlace), DataW.trod enc P w base spare held fuel t cs = some x →
    ∃ zs : List Int, zs.length = k ∧ cs = zs.map (Value.int .i64) ∧ ∀ z ∈ zs, -9223372036854775808 ≤ z ∧ z ≤ 9223372036854775807

theorem rows_opened {t e : TypeId} {k : Nat} {v : Value} {d : DataW H} {p : List MemPlace} (ht : P.underlying t = some (.slice e)) (hk : IntsOf P e k) (hk0 : 0 < k) {cs : List Value} {fuel : Nat} (hcs : cs = [v])
    (h : DataW.trod enc P w base spare held fuel t cs = some (d, p)) :
    ∃ L : List (List Int), RowIn w k v (L.map fun zs => zs.map (Value.int .i64)) ∧ (∀ zs ∈ L, zs.length = k ∧ ∀ z ∈ zs, -9223372036854775808 ≤ z ∧ z ≤ 9223372036854775807) ∧ Capped v := by
  rcases open_slice ht h with ⟨h0, _⟩ | ⟨a, len, cap, m, n, D, Pl, h0, _, hl, hm, hmm, _, hi⟩
  · rw [hcs] at h0
    simp only [List.cons.injEq, and_true] at h0
    subst h0
    exact ⟨[], rowIn_nil w k none 0, by simp, ⟨_, _, _, rfl, Nat.le_refl _, fun _ => rfl⟩⟩
  · rw [hcs] at h0
    simp only [List.cons.injEq, and_true] at h0
    subst h0
    have hlm : len ≤ m := by rw [hmm]; split <;> omega
    have hz : ∀ i, i < len → ∃ zs : List Int, zs.length = k ∧ (∀ z ∈ zs, -9223372036854775808 ≤ z ∧ z ≤ 9223372036854775807) ∧ ∀ j, j < k → w.cell? ((a.add (i * k)).add j) = (zs.map (Value.int .i64))[j]? := fun i hlt => by
      obtain ⟨cs', h1, h2⟩ := hi i (by omega)
      obtain ⟨zs, e1, rfl, e3⟩ := hk.2 enc w base spare held n cs' _ h2
      obtain ⟨-, hln, hat⟩ := World.cells?_some h1
      rw [hk.1] at hat
      exact ⟨zs, e1, e3, hat⟩
    obtain ⟨F, hF⟩ : ∃ F : Nat → List Int, ∀ i, i < len → (F i).length = k ∧ (∀ z ∈ F i, -9223372036854775808 ≤ z ∧ z ≤ 9223372036854775807) ∧ ∀ j, j < k → w.cell? ((a.add (i * k)).add j) = ((F i).map (Value.int .i64))[j]? := by
      refine ⟨fun i => if h : i < len then (hz i h).choose else [], fun i h => ?_⟩
      simp only [dif_pos h]
      exact (hz i h).choose_spec
    refine ⟨(List.range len).map F, ?_, ?_, ⟨_, _, _, rfl, hl, fun h => by cases h⟩⟩
    · cases len with
      | zero => simpa using rowIn_nil w k (some a) cap
      | succ len =>
        obtain ⟨b, off, sp⟩ := a
        have hc0 := (hF 0 (by omega)).2.2 0 hk0
        have hsp : sp = none := by
          have hlen := (hF 0 (by omega)).1
          rw [List.getElem?_eq_getElem (by simpa [hlen] using hk0)] at hc0
          simpa [Addr.add] using World.cell?_spot hc0
        subst hsp
        unfold maxLen at hm
        refine ⟨_, cap, b, off, by simp, by simp; omega, fun j cs hj => ⟨rfl, fun i u hu => ?_⟩⟩
        rw [List.getElem?_map, Option.map_eq_some_iff] at hj
        obtain ⟨zs, hz1, rfl⟩ := hj
        rw [List.getElem?_map, Option.map_eq_some_iff] at hz1
        obtain ⟨j', hz2, rfl⟩ := hz1
        obtain ⟨hj1, hj2⟩ := List.getElem?_eq_some_iff.1 hz2
        simp at hj1 hj2
        subst hj2
        have hf := hF j hj1
        have hik : i < k := by
          have := (List.getElem?_eq_some_iff.1 hu).1
          simpa [hf.1] using this
        have hcell := hf.2.2 i hik
        rw [Addr.add_lit, Addr.add_lit, hu] at hcell
        exact hcell
    · intro zs hzs
      rw [List.mem_map] at hzs
      obtain ⟨i, hi', rfl⟩ := hzs
      rw [List.mem_range] at hi'
      exact ⟨(hF i hi').1, (hF i hi').2.1⟩
end

theorem int_of : IntsOf Tryz.prog 3 1 := ⟨by kernel_rfl, fun enc w base spare held fuel cs x h => by
  obtain ⟨n, rfl, _, hw⟩ := DataW.trod_int Tryz.underlying3 h
  exact ⟨[n], rfl, rfl, by simpa using wfInt hw⟩⟩
theorem drop_take_one {cs : List Value} {i : Nat} {v : Value} (h : (cs.drop i).take 1 = [v]) : cs[i]? = some v := by
  have : ((cs.drop i).take 1)[0]? = some v := by rw [h]; rfl
  simpa using this
theorem three_of {cs : List Value} {a b c : Value} (hl : cs.length = 3) (h0 : cs[0]? = some a) (h1 : cs[1]? = some b) (h2 : cs[2]? = some c) : cs = [a, b, c] := by
  match cs, hl with
  | [x, y, z], _ => simp at h0 h1 h2; simp [h0, h1, h2]
theorem two_of {cs : List Value} {a b : Value} (hl : cs.length = 2) (h0 : cs[0]? = some a) (h1 : cs[1]? = some b) : cs = [a, b] := by
  match cs, hl with
  | [x, y], _ => simp at h0 h1; simp [h0, h1]
theorem pair_cells : Tryz.prog.cellsOf 59 = 2 := by kernel_rfl
theorem int_cells1 : Tryz.prog.cellsOf 3 = 1 := by kernel_rfl
theorem pair_of : IntsOf Tryz.prog 59 2 := ⟨pair_cells, fun enc w base spare held fuel cs x h => by
  obtain ⟨xs, m, _, _, hl, hxl, hx⟩ := DataW.trod_array Tryz.underlying59 h
  have get : ∀ i, i < 2 → ∃ n : Int, cs[i]? = some (.int .i64 n) ∧ (-9223372036854775808 ≤ n ∧ n ≤ 9223372036854775807) := fun i hi => by
    have h1 := hx i hi
    rw [int_cells1, Nat.mul_one, List.getElem?_eq_getElem (by omega)] at h1
    obtain ⟨n, e, _, hw⟩ := DataW.trod_int Tryz.underlying3 h1
    exact ⟨n, drop_take_one e, wfInt hw⟩
  obtain ⟨a, ha, wa⟩ := get 0 (by omega)
  obtain ⟨b, hb, wb⟩ := get 1 (by omega)
  exact ⟨[a, b], rfl, two_of (by rw [hl]; exact pair_cells) ha hb, by simp; exact ⟨wa, wb⟩⟩⟩
theorem at_cells3 : Tryz.prog.cellsOf 38 = 3 := by kernel_rfl
theorem at_of : IntsOf Tryz.prog 38 3 := ⟨at_cells3, fun enc w base spare held fuel cs x h => by
  obtain ⟨xs, m, _, _, hl, hxl, hx⟩ := DataW.trod_struct Tryz.underlying38 h
  have h0 : DataW.trod enc Tryz.prog w base spare held m 3 ((cs.drop 0).take (Tryz.prog.cellsOf 3)) = xs[0]? := hx 0 _ rfl
  have h1 : DataW.trod enc Tryz.prog w base spare held m 3 ((cs.drop 1).take (Tryz.prog.cellsOf 3)) = xs[1]? := hx 1 _ rfl
  have h2 : DataW.trod enc Tryz.prog w base spare held m 3 ((cs.drop 2).take (Tryz.prog.cellsOf 3)) = xs[2]? := hx 2 _ rfl
  have hxl' : xs.length = 3 := hxl
  rw [int_cells1, List.getElem?_eq_getElem (by omega)] at h0 h1 h2
  obtain ⟨a, ea, _, wa⟩ := DataW.trod_int Tryz.underlying3 h0
  obtain ⟨b, eb, _, wb⟩ := DataW.trod_int Tryz.underlying3 h1
  obtain ⟨c, ec, _, wc⟩ := DataW.trod_int Tryz.underlying3 h2
  exact ⟨[a, b, c], rfl, three_of (by rw [hl]; exact at_cells3) (drop_take_one ea) (drop_take_one eb) (drop_take_one ec), by simp; exact ⟨wfInt wa, wfInt wb, wfInt wc⟩⟩⟩

theorem ats_opened {H : Type} {enc : TypeId × Value → H} {w : World} {base : Nat} {spare : Nat → Bool} {held : Bool} {v : Value} {d : DataW H} {p : List MemPlace} (h : DataW.Trod enc Tryz.prog w base spare held 22 v d p) (hv : v.cells.toList = [v]) :
    ∃ L : List PAt, AtsIn w v L ∧ ∀ q, q ∈ L → SmallAt q := by
  obtain ⟨fuel, h⟩ := h
  obtain ⟨L, h1, h2, -⟩ := rows_opened Tryz.underlying22 at_of (by decide) hv h
  refine ⟨L.map fun zs => (zs.getD 0 0, zs.getD 1 0, zs.getD 2 0), ?_, fun q hq => ?_⟩
  · unfold AtsIn
    rw [List.map_map]
    have e : L.map (atC ∘ fun zs => (zs.getD 0 0, zs.getD 1 0, zs.getD 2 0)) = L.map fun zs => zs.map (Value.int .i64) := List.map_congr_left fun zs hz => by
      match zs, (h2 zs hz).1 with
      | [a, b, c], _ => rfl
    rw [e]
    exact h1
  · obtain ⟨zs, hz, rfl⟩ := List.mem_map.1 hq
    obtain ⟨hl, hw⟩ := h2 zs hz
    match zs, hl with
    | [a, b, c], _ => exact ⟨hw a (by simp), hw b (by simp), hw c (by simp)⟩
theorem pairs_opened {H : Type} {enc : TypeId × Value → H} {w : World} {base : Nat} {spare : Nat → Bool} {held : Bool} {v : Value} {d : DataW H} {p : List MemPlace} (h : DataW.Trod enc Tryz.prog w base spare held 23 v d p) (hv : v.cells.toList = [v]) :
    ∃ z : List (Int × Int), PairsIn w v z ∧ ∀ n, n ∈ z → SmallPair n := by
  obtain ⟨fuel, h⟩ := h
  obtain ⟨L, h1, h2, -⟩ := rows_opened Tryz.underlying23 pair_of (by decide) hv h
  refine ⟨L.map fun zs => (zs.getD 0 0, zs.getD 1 0), ?_, fun q hq => ?_⟩
  · unfold PairsIn
    rw [List.map_map]
    have e : L.map (pairC ∘ fun zs => (zs.getD 0 0, zs.getD 1 0)) = L.map fun zs => zs.map (Value.int .i64) := List.map_congr_left fun zs hz => by
      match zs, (h2 zs hz).1 with
      | [a, b], _ => rfl
    rw [e]
    exact h1
  · obtain ⟨zs, hz, rfl⟩ := List.mem_map.1 hq
    obtain ⟨hl, hw⟩ := h2 zs hz
    match zs, hl with
    | [a, b], _ => exact ⟨hw a (by simp), hw b (by simp)⟩
end Go.Proofs.YthkjmplcmfabfaaGreatDoor
