/- The arguments of the Islands laws, opened: lists of lists of bytes, of ints. -/
import Derived.Test.YtagfgbmaibadjaaIsOf
import Derived.ProofKit
import Derived.Deep.Slices
import Derived.Deep.Fields
import Derived.Below
import Derived.WideKeyArgs
import Derived.ChangeSame
namespace Go.Proofs.Ytagfgbmaibadjaa
open Go.ChangeShapes Go.WideShapes Go.Deep Go.RowKit Go.Lib Go.ChangeAt

section
variable {H : Type} {enc : TypeId × Value → H} {P : Program} {w : World} {base : Nat} {spare : Nat → Bool} {held : Bool}
theorem post_of_below {f : Func} {s : ChangeSpec} {apart fresh handsOn again : Bool} {W W' : World} {args : Array Value} {v : Value} {ds gs : List (DataW H)} {before pa pv : List MemPlace}
    (hW : DataW.Whole enc P f.params.toList s.vars apart W args.toList ds gs before)
    (hres : ∀ (b : Nat) (sp : Nat → Bool) (hd : Bool), DataW.TrodAll enc P W' b sp hd f.resultTypes.toList (v.resultList f.resultTypes.size) (s.fn H (ds ++ gs)).results [])
    (hargs : ∀ sp : Nat → Bool, (∀ p ∈ before, sp p.block = true) → DataW.TrodAll enc P W' 0 sp true f.params.toList args.toList (s.fn H (ds ++ gs)).args pa)
    (hvars : ∀ sp : Nat → Bool, (∀ p ∈ before, sp p.block = true) → DataW.TrodVars enc P W' sp s.vars (s.fn H (ds ++ gs)).vars pv)
    (hps : before = pa ++ pv) (hb : Below W.heap.size W W')
    (hok : ∀ (j : Nat) (t : TypeId) (r : Value), f.resultTypes[j]? = some t → (v.resultList f.resultTypes.size)[j]? = some r → Value.okWide P W' .any 0 t r) :
    s.post enc P f apart fresh handsOn again W args v W' := by
  have hlt : ∀ p ∈ before, p.block < W.heap.size := fun p hp => hW.lt p hp
  have hold : ∀ p ∈ before, (fun b => decide (b < W.heap.size)) p.block = true := fun p hp => by simpa using hlt p hp
  refine ⟨ds, gs, before, [], pa, pv, hW, hres _ _ _, hargs _ hold, hvars _ hold, World.keptBut_mono (fun p hp => ⟨hp, ?_⟩) (hb.frame (· ∈ before)), fun _ => ?_⟩
  · rw [hps, List.mem_append] at hp
    exact Or.inr hp
  · obtain ⟨_, _, _, _, _, hz, hn⟩ := hW
    refine ⟨hok, _, _, ([] ++ pa) ++ pv, ⟨[] ++ pa, pv, trodAll_append (hargs _ (fun _ _ => rfl)) (hres _ _ _), hvars _ (fun _ _ => rfl), rfl, ?_, ?_⟩, ?_⟩
    · intro b off hp
      have hin : MemPlace.cell b off ∈ before := by rw [hps]; simpa using hp
      rw [hb.frozen (hlt _ hin)]
      exact hz b off hin
    · intro ha
      have := hn ha
      rw [hps] at this
      simpa using this
    · intro p hp _
      rw [hps]
      simpa using hp

theorem trod_later {t : TypeId} (hl : laidOutB P = true) (hr : P.readableRec t = true) (hrow : t < P.types.size) {W W' : World} {v : Value} {d : DataW H} {ps before : List MemPlace} (h : DataW.Trod enc P W 0 (fun _ => true) true t v d ps)
    (hb : Below W.heap.size W W') (hlt : ∀ x ∈ before, x.block < W.heap.size) {sp : Nat → Bool} (hsp : ∀ x ∈ before, sp x.block = true) (hin : ∀ x ∈ ps, x ∈ before) : DataW.Trod enc P W' 0 sp true t v d ps :=
  WideElems.Trod_stays hl hr hrow h (fun x hx => hb.same (hlt x (hin x hx))) (fun x hx => hsp x (hin x hx))

theorem wfInt {n : Int} (h : (Lit.int .i64 n).wf = true) : -9223372036854775808 ≤ n ∧ n ≤ 9223372036854775807 := by
  simp only [Lit.wf, Bool.and_eq_true, decide_eq_true_eq] at h
  exact h
theorem wfByte {n : Int} (h : (Lit.int .u8 n).wf = true) : 0 ≤ n ∧ n ≤ 255 := by
  simp only [Lit.wf, Bool.and_eq_true, decide_eq_true_eq] at h
  exact h

theorem ints_opened {t e : TypeId} {k : IntKind} {v : Value} {d : DataW H} {p : List MemPlace} (ht : P.underlying t = some (.slice e)) (he : P.underlying e = some (.int k)) (hc : P.cellsOf e = 1) {cs : List Value} {fuel : Nat} (hcs : cs = [v])
    (h : DataW.trod enc P w base spare held fuel t cs = some (d, p)) :
    ∃ (ks : List Int) (ao : Option Addr) (c b off : Nat), v = .slice ao ks.length c ∧ ks.length ≤ 9223372036854775807 ∧ (∀ (j : Nat) (x : Int), ks[j]? = some x → ao = some ⟨b, off, none⟩ ∧ w.cell? ⟨b, off + j, none⟩ = some (.int k x)) ∧ ∀ x ∈ ks, (Lit.int k x).wf = true := by
  rcases open_ints ht he hc h with ⟨h0, _⟩ | ⟨a, len, cap, zs, h0, _, hl, hm, hz, _, hcell, hwz⟩
  · rw [hcs] at h0
    simp only [List.cons.injEq, and_true] at h0
    subst h0
    exact ⟨[], none, 0, 0, 0, rfl, by simp, by simp, by simp⟩
  · rw [hcs] at h0
    simp only [List.cons.injEq, and_true] at h0
    subst h0
    have hlz : len ≤ zs.length := by rw [hz]; split <;> omega
    have hlen : (zs.take len).length = len := by simp; omega
    unfold maxLen at hm
    cases len with
    | zero => exact ⟨[], some a, cap, 0, 0, rfl, by simp, by simp, by simp⟩
    | succ n =>
      obtain ⟨b, off, sp⟩ := a
      have h0 := hcell 0 (by omega)
      have hsp := World.cell?_spot h0
      simp only [Addr.add] at hsp
      subst hsp
      refine ⟨zs.take (n + 1), some ⟨b, off, none⟩, cap, b, off, by rw [hlen], by omega, fun j x hx => ⟨rfl, ?_⟩, fun x hx => hwz x (List.mem_of_mem_take hx)⟩
      obtain ⟨hj, hj2⟩ := List.getElem?_eq_some_iff.1 hx
      have hj3 := hcell j (by omega)
      have : zs.getD j 0 = x := by
        rw [← hj2, List.getElem_take, List.getD_eq_getElem?_getD, List.getElem?_eq_getElem (by omega)]; rfl
      rw [this] at hj3
      rw [← hj3]
      congr 1
      unfold Addr.add
      split
      · next h => subst h; rfl
      · rfl

/-- a slice of slices, opened: what each holds is told by R -/
theorem rows_opened {α : Type} [Inhabited α] {t e : TypeId} {v : Value} {d : DataW H} {p : List MemPlace} (R : Value → α → Prop) (ht : P.underlying t = some (.slice e)) (hc : P.cellsOf e = 1) {fuel : Nat} (h : DataW.trod enc P w base spare held fuel t [v] = some (d, p))
    (hR : ∀ (n : Nat) (lv : Value) (d' : DataW H) (p' : List MemPlace), DataW.trod enc P w base spare held n e [lv] = some (d', p') → ∃ x, R lv x) :
    ∃ (L : List α) (ao : Option Addr) (c b off : Nat), v = .slice ao L.length c ∧ L.length ≤ 9223372036854775807 ∧ ∀ (i : Nat) (x : α), L[i]? = some x → ao = some ⟨b, off, none⟩ ∧ ∃ lv, w.cell? ⟨b, off + i, none⟩ = some lv ∧ R lv x := by
  rcases open_slice ht h with ⟨h0, _⟩ | ⟨a, len, cap, m, n, D, Pl, h0, _, hl, hm, hmm, _, hi⟩
  · simp only [List.cons.injEq, and_true] at h0
    subst h0
    exact ⟨[], none, 0, 0, 0, rfl, by simp, by simp⟩
  · simp only [List.cons.injEq, and_true] at h0
    subst h0
    have hlm : len ≤ m := by rw [hmm]; split <;> omega
    have each : ∀ i, i < len → ∃ x, ∃ lv, w.cell? (a.add i) = some lv ∧ R lv x := by
      intro i hil
      obtain ⟨cs', hcc, ht'⟩ := hi i (by omega)
      rw [hc] at hcc
      obtain ⟨_, hcl, hat⟩ := World.cells?_some hcc
      obtain ⟨lv, rfl⟩ : ∃ lv, cs' = [lv] := by
        match cs', hcl with
        | [lv], _ => exact ⟨lv, rfl⟩
      obtain ⟨x, hx⟩ := hR n lv _ _ ht'
      have := hat (i := 0) (by omega)
      rw [Nat.mul_one] at this
      refine ⟨x, lv, ?_, hx⟩
      simpa [Addr.add] using this
    obtain ⟨f, hf⟩ := choose_lt each
    unfold maxLen at hm
    refine ⟨(List.range len).map f, ?_⟩
    cases len with
    | zero => exact ⟨some a, cap, 0, 0, by simp, by simp, by simp⟩
    | succ k =>
      obtain ⟨b, off, sp⟩ := a
      obtain ⟨_, h0, _⟩ := hf 0 (by omega)
      have hsp := World.cell?_spot h0
      simp only [Addr.add, if_true] at hsp
      subst hsp
      refine ⟨some ⟨b, off, none⟩, cap, b, off, by simp, by simp; omega, fun i x hx => ⟨rfl, ?_⟩⟩
      rw [List.getElem?_map, Option.map_eq_some_iff] at hx
      obtain ⟨j, hj, rfl⟩ := hx
      obtain ⟨h1, h2⟩ := List.getElem?_eq_some_iff.1 hj
      simp at h1 h2
      subst h2
      obtain ⟨lv, k1, k2⟩ := hf i h1
      refine ⟨lv, ?_, k2⟩
      rw [← k1]
      congr 1
      unfold Addr.add
      split
      · next h => subst h; rfl
      · rfl
end

section
variable {H : Type} {enc : TypeId × Value → H} {w : World} {base : Nat} {spare : Nat → Bool} {held : Bool}
theorem bytes_is {lv : Value} {n : Nat} {d : DataW H} {p : List MemPlace} (h : DataW.trod enc Try.prog w base spare held n 42 [lv] = some (d, p)) : ∃ xs, BytesIn w lv xs := by
  obtain ⟨ks, ao, c, b, off, e1, e2, e3, e4⟩ := ints_opened (k := .u8) Try.underlying42 Try.underlying5 (by kernel_rfl) rfl h
  refine ⟨ks.map Int.toNat, ao, c, b, off, by rw [List.length_map]; exact e1, by rw [List.length_map]; exact e2, fun j x hx => ?_⟩
  rw [List.getElem?_map, Option.map_eq_some_iff] at hx
  obtain ⟨y, hy, rfl⟩ := hx
  have hw := wfByte (e4 y (List.mem_of_getElem? hy))
  obtain ⟨k1, k2⟩ := e3 j y hy
  refine ⟨k1, ?_, by omega⟩
  rw [k2]
  congr 2
  omega
theorem raw_open {v : Value} {d : DataW H} {p : List MemPlace} {r : Reach} {b0 : Nat} (hv : Value.okWide Try.prog w r b0 23 v) (h : DataW.Trod enc Try.prog w base spare held 23 v d p) : ∃ L, RawIn w v L := by
  obtain ⟨a0, len, cap, rfl⟩ := okWide_slice Try.underlying23 hv
  obtain ⟨fuel, hf⟩ := h
  obtain ⟨L, ao, c, b, off, e1, e2, e3⟩ := rows_opened (fun lv xs => BytesIn w lv xs) Try.underlying23 (by kernel_rfl) hf (fun n lv d' p' h' => bytes_is h')
  exact ⟨L, ao, c, b, off, e1, e2, e3⟩
theorem ints_is {lv : Value} {n : Nat} {d : DataW H} {p : List MemPlace} (h : DataW.trod enc Try.prog w base spare held n 24 [lv] = some (d, p)) : ∃ xs, IntsIn w lv xs := by
  obtain ⟨ks, ao, c, b, off, e1, e2, e3, e4⟩ := ints_opened (k := .i64) Try.underlying24 Try.underlying3 (by kernel_rfl) rfl h
  refine ⟨ks, ao, c, b, off, e1, e2, fun j x hx => ?_⟩
  have hw := wfInt (e4 x (List.mem_of_getElem? hx))
  obtain ⟨k1, k2⟩ := e3 j x hx
  exact ⟨k1, k2, hw⟩
theorem part_open {v : Value} {d : DataW H} {p : List MemPlace} {r : Reach} {b0 : Nat} (hv : Value.okWide Try.prog w r b0 24 v) (h : DataW.Trod enc Try.prog w base spare held 24 v d p) : ∃ xs, IntsIn w v xs := by
  obtain ⟨a0, len, cap, rfl⟩ := okWide_slice Try.underlying24 hv
  obtain ⟨fuel, hf⟩ := h
  exact ints_is hf
theorem graph_open {v : Value} {d : DataW H} {p : List MemPlace} {r : Reach} {b0 : Nat} (hv : Value.okWide Try.prog w r b0 22 v) (h : DataW.Trod enc Try.prog w base spare held 22 v d p) : ∃ G, RowsIn w v G := by
  obtain ⟨a0, len, cap, rfl⟩ := okWide_slice Try.underlying22 hv
  obtain ⟨fuel, hf⟩ := h
  obtain ⟨L, ao, c, b, off, e1, e2, e3⟩ := rows_opened (fun lv xs => IntsIn w lv xs) Try.underlying22 (by kernel_rfl) hf (fun n lv d' p' h' => ints_is h')
  exact ⟨L, ao, c, b, off, e1, e2, e3⟩
end

theorem Try.own : ownKnob Try.prog.godebug = none := by kernel_rfl
theorem Try.laidOut : laidOutB Try.prog = true := by kernel_rfl

end Go.Proofs.Ytagfgbmaibadjaa
