/- The arguments of the Disk laws, opened: a slice of Acts, a slice of ints; and what the rows' last step needs. -/
import Derived.Test.YtknmebknkncmoaaDkAllNone
import Derived.ProofKit
import Derived.Deep.Slices
import Derived.Deep.Fields
import Derived.Below
import Derived.WideKeyArgs
import Derived.ChangeSame
namespace Go.Proofs.Ytknmebknkncmoaa
open Go.ChangeShapes Go.WideShapes Go.Deep Go.RowKit Go.Lib Go.ChangeAt

section
variable {H : Type} {enc : TypeId × Value → H} {P : Program} {w : World} {base : Nat} {spare : Nat → Bool} {held : Bool}
theorem open_slice_fields {t e : TypeId} {fs : Array Field} {fuel : Nat} {cs : List Value} {x : DataW H × List MemPlace} (ht : P.underlying t = some (.slice e)) (he : P.underlying e = some (.struct fs))
    (hone : oneCellFields P fs = true) (hC : P.cellsOf e = fs.size) (h : DataW.trod enc P w base spare held fuel t cs = some x) :
    (cs = [.slice none 0 0] ∧ x = (.nil, [])) ∨
    ∃ (a : Addr) (len cap m : Nat) (D : Nat → DataW H) (Pl : Nat → List MemPlace), cs = [.slice (some a) len cap] ∧ base ≤ a.block ∧ len ≤ cap ∧ cap ≤ maxLen ∧ m = (if spare a.block then cap else len) ∧
      x = (.slice ((List.range len).map D) ((List.range (m - len)).map fun j => D (len + j)), MemPlace.row a (m * fs.size) ++ (List.range m).flatMap Pl) ∧
      ∀ i, i < m → ∃ (ys : List (DataW H × List MemPlace)) (n : Nat), D i = .agg (ys.map (·.1)) ∧ Pl i = ys.flatMap (·.2) ∧ ys.length = fs.size ∧
        ∀ (j : Nat) (f : Field), fs[j]? = some f → ∃ (v : Value) (y : DataW H × List MemPlace), w.cell? (a.add (i * fs.size + j)) = some v ∧ ys[j]? = some y ∧ DataW.trod enc P w base spare held n f.type [v] = some y := by
  rcases open_slice ht h with h0 | ⟨a, len, cap, m, n, D, Pl, hcs, hb, hl, hm, hmm, hx, hi⟩
  · exact .inl h0
  · refine .inr ⟨a, len, cap, m, D, Pl, hcs, hb, hl, hm, hmm, by rw [hC] at hx; exact hx, fun i him => ?_⟩
    obtain ⟨cs', hc, ht'⟩ := hi i him
    rw [hC] at hc
    obtain ⟨ys, n', hn', hy, hlen, hyl, hf⟩ := DataW.trod_struct he ht'
    obtain ⟨_, hcl, hat⟩ := World.cells?_some hc
    simp only [Prod.mk.injEq] at hy
    refine ⟨ys, n', hy.1, hy.2, hyl, fun j f hj => ?_⟩
    obtain ⟨ho, hk⟩ := hone_of hone j f hj
    have hjl : j < fs.size := (Array.getElem?_eq_some_iff.1 hj).1
    have hcell := hat j hjl
    have hv : cs'[j]? = some (cs'[j]'(by omega)) := List.getElem?_eq_getElem (by omega)
    have h1 := hf j f hj
    rw [ho, hk] at h1
    have hone' : (cs'.drop j).take 1 = [cs'[j]'(by omega)] := by
      rw [List.drop_eq_getElem_cons (by omega)]
      rfl
    rw [hone'] at h1
    have hys : ys[j]? = some (ys[j]'(by omega)) := List.getElem?_eq_getElem (by omega)
    refine ⟨_, _, ?_, hys, h1.trans hys⟩
    rw [← Go.Deep.add_add, hcell, hv]

theorem post_of_below {f : Func} {s : ChangeSpec} {apart fresh handsOn again : Bool} {W W' : World} {args : Array Value} {v : Value} {ds gs : List (DataW H)} {before pa pv : List MemPlace}
    (hW : DataW.Whole enc P f.params.toList s.vars apart W args.toList ds gs before)
    (hres : ∀ (b : Nat) (sp : Nat → Bool) (hd : Bool), DataW.TrodAll enc P W' b sp hd f.resultTypes.toList (v.resultList f.resultTypes.size) (s.fn H (ds ++ gs)).results [])
    (hargs : ∀ sp : Nat → Bool, (∀ p ∈ before, sp p.block = true) → DataW.TrodAll enc P W' 0 sp true f.params.toList args.toList (s.fn H (ds ++ gs)).args pa)
    (hvars : ∀ sp : Nat → Bool, (∀ p ∈ before, sp p.block = true) → DataW.TrodVars enc P W' sp s.vars (s.fn H (ds ++ gs)).vars pv)
    (hps : before = pa ++ pv) (hb : Below W.heap.size W W')
    (hok : ∀ (j : Nat) (t : TypeId) (r : Value), f.resultTypes[j]? = some t → (v.resultList f.resultTypes.size)[j]? = some r → Value.okWide P W' .any 0 t r) :
    s.post enc P f apart fresh handsOn again W args v W' := by
  have hlt : ∀ p ∈ before, p.block < W.heap.size := fun p hp => hW.lt p hp
  have hold : ∀ p ∈ before, (fun b => decide (b < W.heap.size)) p.block = true := fun p hp => by simpa using hlt p hp
  refine ⟨ds, gs, before, [], pa, pv, hW, hres _ _ _, hargs _ hold, hvars _ hold, World.keptBut_mono (fun p hp => ⟨hp, ?_⟩) (hb.frame (· ∈ before)), fun _ => ?_⟩
  · rw [hps, List.mem_append] at hp
    exact Or.inr hp
  · obtain ⟨_, _, _, _, _, hz, hn⟩ := hW
    refine ⟨hok, _, _, ([] ++ pa) ++ pv, ⟨[] ++ pa, pv, trodAll_append (hargs _ (fun _ _ => rfl)) (hres _ _ _), hvars _ (fun _ _ => rfl), rfl, ?_, ?_⟩, ?_⟩
    · intro b off hp
      have hin : MemPlace.cell b off ∈ before := by rw [hps]; simpa using hp
      rw [hb.frozen (hlt _ hin)]
      exact hz b off hin
    · intro ha
      have := hn ha
      rw [hps] at this
      simpa using this
    · intro p hp _
      rw [hps]
      simpa using hp

/-- an argument reads behind the call as it did, under whatever spare holds its places -/
theorem trod_later {t : TypeId} (hl : laidOutB P = true) (hr : P.readableRec t = true) (hrow : t < P.types.size) {W W' : World} {v : Value} {d : DataW H} {ps before : List MemPlace} (h : DataW.Trod enc P W 0 (fun _ => true) true t v d ps)
    (hb : Below W.heap.size W W') (hlt : ∀ x ∈ before, x.block < W.heap.size) {sp : Nat → Bool} (hsp : ∀ x ∈ before, sp x.block = true) (hin : ∀ x ∈ ps, x ∈ before) : DataW.Trod enc P W' 0 sp true t v d ps :=
  WideElems.Trod_stays hl hr hrow h (fun x hx => hb.same (hlt x (hin x hx))) (fun x hx => hsp x (hin x hx))

theorem wfInt {n : Int} (h : (Lit.int .i64 n).wf = true) : -9223372036854775808 ≤ n ∧ n ≤ 9223372036854775807 := by
  simp only [Lit.wf, Bool.and_eq_true, decide_eq_true_eq] at h
  exact h
theorem wfByte {n : Int} (h : (Lit.int .u8 n).wf = true) : 0 ≤ n ∧ n ≤ 255 := by
  simp only [Lit.wf, Bool.and_eq_true, decide_eq_true_eq] at h
  exact h

theorem ints_opened {t : TypeId} {v : Value} {d : DataW H} {p : List MemPlace} (ht : P.underlying t = some (.slice 3)) (he : P.underlying 3 = some (.int .i64)) (hc : P.cellsOf 3 = 1) {cs : List Value} {fuel : Nat} (hcs : cs = [v])
    (h : DataW.trod enc P w base spare held fuel t cs = some (d, p)) :
    ∃ ks, IntsAt w v ks ∧ ks.length ≤ maxLen ∧ ∀ x ∈ ks, -9223372036854775808 ≤ x ∧ x ≤ 9223372036854775807 := by
  rcases open_ints ht he hc h with ⟨h0, _⟩ | ⟨a, len, cap, zs, h0, _, hl, hm, hz, _, hcell, hwz⟩
  · rw [hcs] at h0
    simp only [List.cons.injEq, and_true] at h0
    subst h0
    exact ⟨[], .inl ⟨rfl, _, _, rfl⟩, by simp [maxLen], by simp⟩
  · rw [hcs] at h0
    simp only [List.cons.injEq, and_true] at h0
    subst h0
    have hlz : len ≤ zs.length := by rw [hz]; split <;> omega
    refine ⟨zs.take len, ?_, by simp; omega, fun x hx => wfInt (hwz x (List.mem_of_mem_take hx))⟩
    have hlen : (zs.take len).length = len := by simp; omega
    cases len with
    | zero => exact .inl ⟨by simp, _, _, rfl⟩
    | succ n =>
      obtain ⟨b, off, sp⟩ := a
      have h0 := hcell 0 (by omega)
      have hsp := World.cell?_spot h0
      simp only [Addr.add] at hsp
      subst hsp
      refine .inr ⟨b, off, cap, by rw [hlen], fun j x hx => ?_⟩
      obtain ⟨hj, hj2⟩ := List.getElem?_eq_some_iff.1 hx
      have hj3 := hcell j (by omega)
      have : zs.getD j 0 = x := by
        rw [← hj2, List.getElem_take, List.getD_eq_getElem?_getD, List.getElem?_eq_getElem (by omega)]; rfl
      rw [this] at hj3
      rw [← hj3]
      congr 1
      unfold Addr.add
      split
      · next h => subst h; rfl
      · rfl
end

def KeepsAt (w : World) (l : List ActD) : Prop :=
  ∀ x ∈ l, (0 ≤ x.kind ∧ x.kind ≤ 255) ∧ ∃ ks, IntsAt w x.keep ks ∧ ks.length ≤ maxLen ∧ ∀ k ∈ ks, -9223372036854775808 ≤ k ∧ k ≤ 9223372036854775807

section
variable {H : Type} {enc : TypeId × Value → H} {w : World} {base : Nat} {spare : Nat → Bool} {held : Bool}
theorem ints_open {v : Value} {d : DataW H} {p : List MemPlace} {r : Reach} {b0 : Nat} (hv : Value.okWide Try.prog w r b0 29 v) (h : DataW.Trod enc Try.prog w base spare held 29 v d p) :
    ∃ ks, IntsAt w v ks ∧ ks.length ≤ maxLen ∧ ∀ x ∈ ks, -9223372036854775808 ≤ x ∧ x ≤ 9223372036854775807 := by
  obtain ⟨a0, len, cap, rfl⟩ := okWide_slice Try.underlying29 hv
  obtain ⟨fuel, hf⟩ := h
  exact ints_opened Try.underlying29 Try.underlying3 (by kernel_rfl) rfl hf

theorem acts_open {v : Value} {d : DataW H} {p : List MemPlace} {r : Reach} {b0 : Nat} (hv : Value.okWide Try.prog w r b0 22 v) (h : DataW.Trod enc Try.prog w base spare held 22 v d p) :
    ∃ l, ActsAt w v l ∧ KeepsAt w l := by
  obtain ⟨a0, len, cap, rfl⟩ := okWide_slice Try.underlying22 hv
  obtain ⟨fuel, hf⟩ := h
  rcases open_slice_fields Try.underlying22 Try.underlying31 (by kernel_rfl) (by kernel_rfl) hf with ⟨h0, _⟩ | ⟨a, len', cap', m, D, Pl, h0, _, hl, hm, hmm, _, hcell⟩
  · have h1 : Value.slice a0 len cap = .slice none 0 0 := by simpa [Value.cells] using h0
    rw [h1]
    exact ⟨[], actsAt_nil _, by simp [KeepsAt]⟩
  · have h1 : Value.slice a0 len cap = .slice (some a) len' cap' := by simpa [Value.cells] using h0
    rw [h1]
    have hlm : len' ≤ m := by rw [hmm]; split <;> omega
    have each : ∀ i, i < len' → ∃ x : ActD, ActOk x ∧ ((0 ≤ x.kind ∧ x.kind ≤ 255) ∧ ∃ ks, IntsAt w x.keep ks ∧ ks.length ≤ maxLen ∧ ∀ k ∈ ks, -9223372036854775808 ≤ k ∧ k ≤ 9223372036854775807) ∧
        w.cell? (a.add (i * 4)) = some (.int .u8 x.kind) ∧ w.cell? (a.add (i * 4 + 1)) = some (.int .i64 x.place) ∧ w.cell? (a.add (i * 4 + 2)) = some (.string (bstr x.text)) ∧ w.cell? (a.add (i * 4 + 3)) = some x.keep := by
      intro i hi
      obtain ⟨ys, n, _, _, _, hf⟩ := hcell i (by omega)
      obtain ⟨c0, y0, k0, _, t0⟩ := hf 0 _ rfl
      obtain ⟨c1, y1, k1, _, t1⟩ := hf 1 _ rfl
      obtain ⟨c2, y2, k2, _, t2⟩ := hf 2 _ rfl
      obtain ⟨c3, y3, k3, _, t3⟩ := hf 3 _ rfl
      obtain ⟨n0, e0, _, w0⟩ := DataW.trod_int (k := .u8) Try.underlying5 t0
      obtain ⟨n1, e1, _, w1⟩ := DataW.trod_int (k := .i64) Try.underlying3 t1
      obtain ⟨s, e2, _, w2⟩ := DataW.trod_string Try.underlying9 t2
      have t3' := ints_opened (v := c3) Try.underlying29 Try.underlying3 (by kernel_rfl) rfl t3
      simp only [List.cons.injEq, and_true] at e0 e1 e2
      subst e0 e1 e2
      refine ⟨⟨n0, n1, s.data.toList, c3⟩, ⟨(wfInt w1).1, (wfInt w1).2, ?_⟩, ⟨wfByte w0, t3'⟩, k0, k1, ?_, k3⟩
      · show s.data.toList.length ≤ _
        unfold maxLen at w2
        have : s.size = s.data.toList.length := by cases s; rfl
        omega
      · exact k2
    have : Inhabited ActD := ⟨⟨0, 0, [], .bool true⟩⟩
    obtain ⟨f, hf⟩ := choose_lt each
    refine ⟨(List.range len').map f, ?_, ?_⟩
    · obtain ⟨b, off, sp⟩ := a
      cases len' with
      | zero => exact ⟨some ⟨b, off, sp⟩, cap', 0, 0, by simp, by simp, by simp, by simp⟩
      | succ n =>
        have h0 := (hf 0 (by omega)).2.2.1
        have hsp := World.cell?_spot h0
        simp only [Addr.add, Nat.zero_mul, if_true] at hsp
        subst hsp
        refine ⟨some ⟨b, off, none⟩, cap', b, off, by simp, by simp; unfold maxLen at hm; omega, ?_, ?_⟩
        · intro x hx
          simp only [List.mem_map, List.mem_range] at hx
          obtain ⟨i, hi, rfl⟩ := hx
          exact (hf i hi).1
        · intro j x hx
          simp only [List.getElem?_map, Option.map_eq_some_iff] at hx
          obtain ⟨i, hi, rfl⟩ := hx
          obtain ⟨hj, rfl⟩ : j < n + 1 ∧ j = i := by
            obtain ⟨h1, h2⟩ := List.getElem?_eq_some_iff.1 hi
            simp at h1 h2
            exact ⟨h1, h2⟩
          have hadd : ∀ k, (⟨b, off, none⟩ : Addr).add k = ⟨b, off + k, none⟩ := by
            intro k; unfold Addr.add; split
            · next h => subst h; rfl
            · rfl
          obtain ⟨_, _, k0, k1, k2, k3⟩ := hf j hj
          rw [hadd] at k0 k1 k2 k3
          exact ⟨rfl, k0, k1, k2, k3⟩
    · intro x hx
      simp only [List.mem_map, List.mem_range] at hx
      obtain ⟨i, hi, rfl⟩ := hx
      exact (hf i hi).2.1
end
end Go.Proofs.Ytknmebknkncmoaa
