/- Contract of (*disk.Disk).Write. -/
import Derived.Test.YtknmebknkncmoaaDkPieces
namespace Go.Proofs.Ytknmebknkncmoaa
open Go.RowKit Go.Lib
attribute [local go_sem] Oper.semAt_some wide_fn

theorem parts_mem (m : Nat) : ∀ (at_ : Nat) (s : Bs), s.length ≤ m → ∀ p ∈ parts at_ s, p.2 ≠ [] ∧ at_ ≤ p.1 ∧ p.1 + p.2.length ≤ at_ + s.length := by
  induction m with
  | zero =>
    intro at_ s hm p hp
    have : s = [] := List.eq_nil_of_length_eq_zero (by omega)
    subst this
    simp [parts_nil] at hp
  | succ m ih =>
    intro at_ s hm p hp
    by_cases hs : s = []
    · subst hs; simp [parts_nil] at hp
    · have h0 : 0 < s.length := List.length_pos_iff.2 hs
      have hmod : at_ % 64 < 64 := Nat.mod_lt _ (by omega)
      rw [parts_cons hs rfl] at hp
      generalize hn : min (64 - at_ % 64) s.length = n at hp
      rcases List.mem_cons.1 hp with rfl | hp
      · refine ⟨?_, Nat.le_refl _, ?_⟩
        · intro e
          rcases List.take_eq_nil_iff.1 e with h | h
          · omega
          · exact hs h
        · simp; omega
      · obtain ⟨h1, h2, h3⟩ := ih _ _ (by simp; omega) p hp
        simp at h3
        exact ⟨h1, by omega, by omega⟩
theorem parts_count (m : Nat) : ∀ (at_ : Nat) (s : Bs), s.length ≤ m → (parts at_ s).length ≤ s.length := by
  induction m with
  | zero =>
    intro at_ s hm
    have : s = [] := List.eq_nil_of_length_eq_zero (by omega)
    subst this
    simp [parts_nil]
  | succ m ih =>
    intro at_ s hm
    by_cases hs : s = []
    · subst hs; simp [parts_nil]
    · have h0 : 0 < s.length := List.length_pos_iff.2 hs
      have hmod : at_ % 64 < 64 := Nat.mod_lt _ (by omega)
      rw [parts_cons hs rfl, List.length_cons]
      have := ih (at_ + min (64 - at_ % 64) s.length) (s.drop (min (64 - at_ % 64) s.length)) (by simp; omega)
      simp at this
      omega

def own (v : Value) : List Nat := v.ownBlock.toList

/-- what holds between two rounds of Write's loop: w0: as the call began; bb: the box of d; ba, bs: the iterator's cells; lp: the loop's record, D: the deferred calls' block -/
structure WrI (w0 : World) (base bd bk bn bb ba bs lp D : Nat) (rec : Loop) (pv0 : Value) (kept now : Bs) (pend : List (Nat × Bs)) (done : List (Nat × Bs)) (W : World) (pv : Value) : Prop where
  disk : DiskAt W base bd bk bn pv kept (done.foldl lay now) (pend ++ done)
  box : W.heap[bb]? = some (.cells #[.pointer (some ⟨bd, 0, none⟩)] 24 (0, 0))
  loop : W.heap[lp]? = some (.loop rec)
  defs : W.heap[D]? = some (.deferred (some []))
  chg : Chg (bd :: bn :: own pv0) w0 W
  own : ∀ g, pv.ownBlock = some g → pv0.ownBlock = some g ∨ w0.heap.size ≤ g
  nea : ∀ g, pv.ownBlock = some g → g ≠ ba ∧ g ≠ bs

def WrInv (w0 : World) (base bd bk bn bb ba bs lp D : Nat) (rec : Loop) (pv0 : Value) (kept now : Bs) (pend : List (Nat × Bs)) (done : List (Nat × Bs)) (W : World) : Prop :=
  ∃ pv, WrI w0 base bd bk bn bb ba bs lp D rec pv0 kept now pend done W pv

def WritePost (w0 : World) (base bd bk bn : Nat) (pv0 : Value) (kept now : Bs) (pend : List (Nat × Bs)) (at_ : Nat) (s : Bs) (e : Ending) (W : World) : Prop :=
  e = .returned (.int .i64 0) ∧ ∃ pv, DiskAt W base bd bk bn pv kept ((parts at_ s).foldl lay now) (pend ++ parts at_ s) ∧ Chg (bd :: bn :: own pv0) w0 W ∧ (∀ g, pv.ownBlock = some g → pv0.ownBlock = some g ∨ w0.heap.size ≤ g)

set_option maxHeartbeats 400000 in
theorem write_nil (at_ : Int) (s : ByteArray) (w : World) : Calls Try.prog 25 #[.pointer none, .int .i64 at_, .string s] w fun e w' => e = .returned (.int .i64 1) ∧ Below w.heap.size w w' := by
  go_enter Try.func25, Try.ntmps25
  go_wp2
  go_ret
  exact ⟨rfl, (Below.refl _ w).alloc (Nat.le_refl _) _⟩

set_option maxHeartbeats 400000 in
theorem write_bad {w : World} {base bd bk bn : Nat} {pv : Value} {kept now : Bs} {pend : List (Nat × Bs)} (D : DiskAt w base bd bk bn pv kept now pend) (at_ : Int) (s : ByteArray)
    (h1 : -9223372036854775808 ≤ at_) (h2 : at_ ≤ 9223372036854775807) (hs : s.size ≤ 9223372036854775807) (hb : wthB kept.length at_ s.size = false) :
    Calls Try.prog 25 #[.pointer (some ⟨bd, 0, none⟩), .int .i64 at_, .string s] w fun e w' => e = .returned (.int .i64 260) ∧ Below w.heap.size w w' := by
  have D1 := D.keep (F := []) ((Chg.refl _ w).alloc (.cells #[.pointer (some ⟨bd, 0, none⟩)] 24)) (by simp) (by simp) (by simp) (by simp)
  have hw := within_any D1 at_ s.size h1 h2 (by omega) (by omega)
  rw [hb] at hw
  have HW := hid hw
  clear hw hb D1 D
  go_enter Try.func25, Try.ntmps25
  go_wp2_with (go_at_call 30; refine HW.out.mono ?_; rintro e w' ⟨rfl, rfl⟩)
  go_ret
  exact ⟨rfl, (Below.refl _ w).alloc (Nat.le_refl _) _⟩

theorem putObj_chg (w : World) (l : Nat) (o : Obj) : Chg [l] w (w.putObj l o) :=
  ⟨rfl, rfl, rfl, by simp, fun k _ hn => World.putObj_heap_other (by simpa using hn)⟩

theorem disk_lt {w : World} {base bd bk bn : Nat} {pv : Value} {kept now : Bs} {pend : List (Nat × Bs)} (D : DiskAt w base bd bk bn pv kept now pend) : bd < w.heap.size ∧ bk < w.heap.size ∧ bn < w.heap.size ∧ ∀ g, pv.ownBlock = some g → g < w.heap.size :=
  ⟨heap_lt D.hd, heap_lt D.hk, heap_lt D.hn, fun g hg => (D.hp.lt g hg).2⟩

theorem write_start {w : World} {base bd bk bn at_ : Nat} {pv : Value} {kept now s : Bs} {pend : List (Nat × Bs)} {rec : Loop} (D : DiskAt w base bd bk bn pv kept now pend) :
    PcInv (WrInv w base bd bk bn w.heap.size (w.heap.size + 1) (w.heap.size + 1 + 1) (w.heap.size + 3 + 1) (w.heap.size + 3) rec pv kept now pend) (w.heap.size + 1) (w.heap.size + 1 + 1) [] at_ s
      (((((w.alloc (.cells #[.pointer (some ⟨bd, 0, none⟩)] 24)).alloc (.cells #[.int .i64 (at_ : Int)] 3)).alloc (.cells #[.string (bstr s)] 9)).alloc (.deferred (some []))).alloc (.loop rec)) := by
  have hl := disk_lt D
  have e0 := heap_alloc_new w (.cells #[.pointer (some ⟨bd, 0, none⟩)] 24)
  have e1 := heap_alloc_new (w.alloc (.cells #[.pointer (some ⟨bd, 0, none⟩)] 24)) (.cells #[.int .i64 (at_ : Int)] 3)
  have e2 := heap_alloc_new ((w.alloc (.cells #[.pointer (some ⟨bd, 0, none⟩)] 24)).alloc (.cells #[.int .i64 (at_ : Int)] 3)) (.cells #[.string (bstr s)] 9)
  have e3 := heap_alloc_new (((w.alloc (.cells #[.pointer (some ⟨bd, 0, none⟩)] 24)).alloc (.cells #[.int .i64 (at_ : Int)] 3)).alloc (.cells #[.string (bstr s)] 9)) (.deferred (some []))
  have e4 := heap_alloc_new ((((w.alloc (.cells #[.pointer (some ⟨bd, 0, none⟩)] 24)).alloc (.cells #[.int .i64 (at_ : Int)] 3)).alloc (.cells #[.string (bstr s)] 9)).alloc (.deferred (some []))) (.loop rec)
  simp only [World.size_alloc] at e1 e2 e3 e4
  have ch : Chg [] w (((((w.alloc (.cells #[.pointer (some ⟨bd, 0, none⟩)] 24)).alloc (.cells #[.int .i64 (at_ : Int)] 3)).alloc (.cells #[.string (bstr s)] 9)).alloc (.deferred (some []))).alloc (.loop rec)) := (((((Chg.refl _ w).alloc _).alloc _).alloc _).alloc _).alloc _
  refine ⟨⟨pv, ⟨by simpa using D.keep ch (by simp) (by simp) (by simp) (by simp), ?_, ?_, ?_, ch.mono (by simp), fun g hg => .inl hg, fun g hg => ?_⟩⟩, ?_, ?_⟩
  · exact heap_alloc_keep (heap_alloc_keep (heap_alloc_keep (heap_alloc_keep e0 _) _) _) _
  · exact e4
  · exact heap_alloc_keep e3 _
  · have := hl.2.2.2 g hg; omega
  · exact heap_alloc_keep (heap_alloc_keep (heap_alloc_keep e1 _) _) _
  · exact heap_alloc_keep (heap_alloc_keep e2 _) _

theorem write_keep {w W W' : World} {base bd bk bn D : Nat} {pv : Value} {kept now : Bs} {pend done : List (Nat × Bs)} {rec : Loop} (hD : D = w.heap.size + 3) (D0 : DiskAt w base bd bk bn pv kept now pend)
    (hc : Chg [w.heap.size + 1, w.heap.size + 1 + 1] W W') (hi : WrInv w base bd bk bn w.heap.size (w.heap.size + 1) (w.heap.size + 1 + 1) (D + 1) D rec pv kept now pend done W) :
    WrInv w base bd bk bn w.heap.size (w.heap.size + 1) (w.heap.size + 1 + 1) (D + 1) D rec pv kept now pend done W' := by
  obtain ⟨pv', I⟩ := hi
  have hl := disk_lt D0
  refine ⟨pv', ⟨I.disk.keep hc (by simp; omega) (by simp; omega) (by simp; omega) (fun g hg => by have := I.nea g hg; simp; omega), hc.heap I.box (by simp; omega), hc.heap I.loop (by simp; omega), hc.heap I.defs (by simp; omega), ?_, I.own, I.nea⟩⟩
  exact I.chg.trans hc (by simp; omega)

theorem owns_cells {w : World} {base size n g : Nat} {e : TypeId} {v : Value} {xs : List Value} (h : w.ownsRow base e size v n xs) (hg : v.ownBlock = some g) : ∃ cur, w.heap[g]? = some (.cells cur e (0, 0)) := by
  rcases h.2 with ⟨rfl, _⟩ | ⟨g', cap, cur, rfl, _, hh, _⟩
  · simp [Value.ownBlock] at hg
  · simp only [Value.ownBlock, Option.some.injEq] at hg; subst hg; exact ⟨cur, hh⟩

theorem write_end {w W : World} {base bd bk bn D : Nat} {pv pv' : Value} {kept now s : Bs} {at_ : Nat} {pend : List (Nat × Bs)} {rec : Loop} {o1 o2 : Obj} (D0 : DiskAt w base bd bk bn pv kept now pend) (hD : D = w.heap.size + 3)
    (I : WrI w base bd bk bn w.heap.size (w.heap.size + 1) (w.heap.size + 1 + 1) (D + 1) D rec pv kept now pend (parts at_ s) W pv') :
    WritePost w base bd bk bn pv kept now pend at_ s (.returned (.int .i64 0)) ((W.putObj (D + 1) o1).putObj D o2) := by
  have hl := disk_lt D0
  have c1 : Chg [D + 1, D] W ((W.putObj (D + 1) o1).putObj D o2) := ((putObj_chg W (D + 1) o1).mono (by simp)).trans (putObj_chg _ D o2) (by simp)
  have hd := I.defs
  have hlp := I.loop
  refine ⟨rfl, pv', I.disk.keep c1 (by simp; omega) (by simp; omega) (by simp; omega) (fun g hg => ?_), I.chg.trans c1 (by simp; omega), I.own⟩
  obtain ⟨cur, hcur⟩ := owns_cells I.disk.hp hg
  simp only [List.mem_cons, List.not_mem_nil, or_false]
  rintro (rfl | rfl)
  · rw [hcur] at hlp; cases hlp
  · rw [hcur] at hd; cases hd

/- hS5mark -/
theorem held_alloc3 {w : World} {p1 p2 p3 : Addr} {v1 v2 v3 : Value} (h : w.cell? p1 = some v1 ∧ w.cell? p2 = some v2 ∧ w.cell? p3 = some v3) (o : Obj) : (w.alloc o).cell? p1 = some v1 ∧ (w.alloc o).cell? p2 = some v2 ∧ (w.alloc o).cell? p3 = some v3 :=
  ⟨(World.cell?_alloc_lt _ _ _ (World.block_lt_of_cell? _ _ h.1)).trans h.1, (World.cell?_alloc_lt _ _ _ (World.block_lt_of_cell? _ _ h.2.1)).trans h.2.1, (World.cell?_alloc_lt _ _ _ (World.block_lt_of_cell? _ _ h.2.2)).trans h.2.2⟩

theorem write_round {w W : World} {base bd bk bn D a2 : Nat} {pv pv' : Value} {kept now q s : Bs} {pend done : List (Nat × Bs)} {rec rb : Loop} (D0 : DiskAt w base bd bk bn pv kept now pend) (hD : D = w.heap.size + 3)
    (I : WrI w base bd bk bn w.heap.size (w.heap.size + 1) (w.heap.size + 1 + 1) (D + 1) D rec pv kept now pend done W pv') (hba : W.heap[w.heap.size + 1]? = some (.cells #[.int .i64 (a2 : Int)] 3 (0, 0))) (hbs : W.heap[w.heap.size + 1 + 1]? = some (.cells #[.string (bstr s)] 9 (0, 0)))
    (hn : pend.length + done.length ≤ 2000000000) (hq0 : 0 < q.length) (hq : a2 + q.length ≤ kept.length) :
    ∃ (g N c : Nat) (w1 w3 : World),
      (Builtin.append_ #[63, 63] 63 #[pv', .slice (some ⟨W.heap.size + 1, 0, none⟩) 1 1]).run Try.prog ((((W.alloc (.cells #[.int .i64 (a2 : Int), .string (bstr q)] 69)).putObj (D + 1) (.loop rb)).alloc (.cells #[.int .i64 (a2 : Int), .string (bstr q)] 69)).drew) =
        .ok (.slice (some ⟨g, 0, none⟩) N c) w1 ∧
      (∀ ty, (Builtin.copy_ #[35, 9] ty #[.slice (some ⟨bn, a2, none⟩) (kept.length - a2) (kept.length - a2), .string (bstr q)]).run Try.prog ((w1.setCell ⟨bd, 2, none⟩ (.slice (some ⟨g, 0, none⟩) N c)).drew) = .ok (goInt (bstr q).size) w3) ∧
      (((W.alloc (.cells #[.int .i64 (a2 : Int), .string (bstr q)] 69)).putObj (D + 1) (.loop rb)).cell? ⟨w.heap.size, 0, none⟩ = some (.pointer (some ⟨bd, 0, none⟩)) ∧
        ((W.alloc (.cells #[.int .i64 (a2 : Int), .string (bstr q)] 69)).putObj (D + 1) (.loop rb)).cell? ⟨W.heap.size, 0, none⟩ = some (.int .i64 (a2 : Int)) ∧
        ((W.alloc (.cells #[.int .i64 (a2 : Int), .string (bstr q)] 69)).putObj (D + 1) (.loop rb)).cell? ⟨W.heap.size, 1, none⟩ = some (.string (bstr q))) ∧
      (((W.alloc (.cells #[.int .i64 (a2 : Int), .string (bstr q)] 69)).putObj (D + 1) (.loop rb)).cell? ⟨bd, 2, none⟩ = some pv') ∧
      (w1.cell? ⟨w.heap.size, 0, none⟩ = some (.pointer (some ⟨bd, 0, none⟩)) ∧ w1.cell? ⟨W.heap.size, 0, none⟩ = some (.int .i64 (a2 : Int)) ∧ w1.cell? ⟨W.heap.size, 1, none⟩ = some (.string (bstr q))) ∧
      ((w1.setCell ⟨bd, 2, none⟩ (.slice (some ⟨g, 0, none⟩) N c)).cell? ⟨w.heap.size, 0, none⟩ = some (.pointer (some ⟨bd, 0, none⟩)) ∧ (w1.setCell ⟨bd, 2, none⟩ (.slice (some ⟨g, 0, none⟩) N c)).cell? ⟨W.heap.size, 0, none⟩ = some (.int .i64 (a2 : Int)) ∧ (w1.setCell ⟨bd, 2, none⟩ (.slice (some ⟨g, 0, none⟩) N c)).cell? ⟨W.heap.size, 1, none⟩ = some (.string (bstr q)) ∧
        (w1.setCell ⟨bd, 2, none⟩ (.slice (some ⟨g, 0, none⟩) N c)).cell? ⟨bd, 1, none⟩ = some (.slice (some ⟨bn, 0, none⟩) kept.length kept.length)) ∧
      (w1.cell? ⟨bd, 2, none⟩ = some pv' ∧ w1.frozen? ⟨bd, 2, none⟩ = false) ∧
      (w3.cell? ⟨w.heap.size, 0, none⟩ = some (.pointer (some ⟨bd, 0, none⟩)) ∧ w3.cell? ⟨W.heap.size, 0, none⟩ = some (.int .i64 (a2 : Int)) ∧ w3.cell? ⟨W.heap.size, 1, none⟩ = some (.string (bstr q)) ∧ w3.cell? ⟨bd, 1, none⟩ = some (.slice (some ⟨bn, 0, none⟩) kept.length kept.length)) ∧
      w3.heap[D + 1]? = some (.loop rb) ∧
      PcInv (WrInv w base bd bk bn w.heap.size (w.heap.size + 1) (w.heap.size + 1 + 1) (D + 1) D rec pv kept now pend) (w.heap.size + 1) (w.heap.size + 1 + 1) (done ++ [(a2, q)]) a2 s (w3.putObj (D + 1) (.loop rec)) := by
  have hl := disk_lt D0
  have hlp := I.loop
  have hsW : w.heap.size + 5 ≤ W.heap.size := by have := heap_lt hlp; omega
  obtain ⟨i0, hi, hz0, hz1, hz2⟩ := info_parts Try.info69
  have hnol : ∀ g, pv'.ownBlock = some g → g ∉ [D + 1] := fun g hg => by
    obtain ⟨cur, hcur⟩ := owns_cells I.disk.hp hg
    simp only [List.mem_singleton]
    rintro rfl
    rw [hcur] at hlp; cases hlp
  obtain ⟨X, hX⟩ : ∃ X : Obj, X = .cells #[.int .i64 (a2 : Int), .string (bstr q)] 69 := ⟨_, rfl⟩
  rw [← hX]
  have ch0 : Chg [D + 1] W ((W.alloc X).putObj (D + 1) (.loop rb)) := ((Chg.refl [] W).alloc X).mono (by simp) |>.trans (putObj_chg _ _ _) (by simp)
  have hpb : ((W.alloc X).putObj (D + 1) (.loop rb)).heap[W.heap.size]? = some X := (World.putObj_heap_other (by omega)).trans (heap_alloc_new W X)
  have hpl : ((W.alloc X).putObj (D + 1) (.loop rb)).heap[D + 1]? = some (.loop rb) := World.putObj_heap_same (by simp; omega)
  have hsb : ((W.alloc X).putObj (D + 1) (.loop rb)).heap.size = W.heap.size + 1 := by simp
  have hbd := ch0.heap I.disk.hd (by simp; omega)
  have hbb := ch0.heap I.box (by simp; omega)
  have hown := ch0.owns I.disk.hp hnol
  obtain ⟨Wb, hWb⟩ : ∃ Wb, Wb = (W.alloc X).putObj (D + 1) (.loop rb) := ⟨_, rfl⟩
  rw [← hWb] at ch0 hpb hpl hsb hbd hbb hown ⊢
  have hB0 : base ≤ (Wb.alloc X).drew.heap.size := by have := I.disk.b1; simp; omega
  have hn1 : Wb.heap.size = W.heap.size + 1 := hsb
  have happ := run_append_own_at (P := Try.prog) (Wb.alloc X).drew base 63 63 69 i0 (.agg #[.int .i64 0, .string ⟨#[]⟩]) 2 24 Try.underlying63 hi hz0 hz1 hz2 rfl (by decide) pv' (pend ++ done).length _ (hown.alloc X)
    ⟨W.heap.size + 1, 0, none⟩ 1 1 [.int .i64 (a2 : Int), .string (bstr q)] rfl (by rw [hX]; exact cell_two_new2 hn1 _ _ _) (by intro u hu; simp at hu; rcases hu with rfl | rfl <;> rfl) (by simp [maxLen]; omega) (by simp; omega) hB0
  obtain ⟨v', w1, hr, hown', hgrow, _, hat⟩ := happ
  obtain ⟨g, c, rfl, hg1, hg2⟩ := hown'.form (by omega)
  have ch1 : Chg (own pv') Wb w1 := (((Chg.refl _ Wb).alloc X).drew).grown hgrow (fun k hk => .inl (by simp [own, hk]))
  have hX69 : ∀ k, pv'.ownBlock = some k → ∃ cur, Wb.heap[k]? = some (.cells cur 69 (0, 0)) := fun k hk => owns_cells hown hk
  have notown : ∀ {k : Nat} {cs : Array Value} {t : TypeId}, Wb.heap[k]? = some (.cells cs t (0, 0)) → t ≠ 69 → k ∉ own pv' := fun {k cs t} hk ht hm => by
    simp only [own, Option.mem_toList] at hm
    obtain ⟨cur, hcur⟩ := hX69 k hm
    rw [hcur] at hk; simp at hk; exact ht hk.2.symm
  have hpbn : W.heap.size ∉ own pv' := fun hm => by
    simp only [own, Option.mem_toList] at hm
    have := (I.disk.hp.lt _ hm).2; omega
  have hlpn : D + 1 ∉ own pv' := fun hm => by
    simp only [own, Option.mem_toList] at hm
    exact hnol _ hm (by simp)
  have b1 := ch1.heap hbd (notown hbd (by decide))
  have b2 := ch1.heap hbb (notown hbb (by decide))
  have b3 := ch1.heap hpb hpbn
  have b4 := ch1.heap hpl hlpn
  rw [hX] at b3
  have nkd : bd ≠ bk := heap_ne D0.hd D0.hk (by decide)
  have nnd : bd ≠ bn := heap_ne D0.hd D0.hn (by decide)
  obtain ⟨V, hV⟩ : ∃ V : Value, V = .slice (some ⟨g, 0, none⟩) ((pend ++ done).length + 1) c := ⟨_, rfl⟩
  have d1 := heap_setCell_at (i := 2) b1 V
  have d2 := heap_setCell_far b2 (show w.heap.size ≠ bd by omega) V (i := 2)
  have d3 := heap_setCell_far b3 (show W.heap.size ≠ bd by omega) V (i := 2)
  have d4 := heap_setCell_far b4 (show D + 1 ≠ bd by omega) V (i := 2)
  obtain ⟨w2, hw2⟩ : ∃ w2, w2 = w1.setCell ⟨bd, 2, none⟩ V := ⟨_, rfl⟩
  rw [← hw2] at d1 d2 d3 d4
  have ch2 : Chg ((D + 1) :: bd :: own pv') W w2 := by
    rw [hw2]
    exact ((ch0.mono (by simp)).trans (ch1.mono (G := own pv') (by simp)) (F := (D + 1) :: bd :: own pv') (by intro x hx; simp [hx])).setCell (.inl (by simp)) _
  have hbnn : bn ∉ (D + 1) :: bd :: own pv' := by
    simp only [List.mem_cons, not_or]
    refine ⟨by omega, nnd.symm, ?_⟩
    intro hm
    simp only [own, Option.mem_toList] at hm
    obtain ⟨cur, hcur⟩ := owns_cells I.disk.hp hm
    have := I.disk.hn; rw [hcur] at this; simp at this
  have hbkn : bk ∉ (D + 1) :: bd :: own pv' := by
    simp only [List.mem_cons, not_or]
    refine ⟨by omega, nkd.symm, ?_⟩
    intro hm
    simp only [own, Option.mem_toList] at hm
    obtain ⟨cur, hcur⟩ := owns_cells I.disk.hp hm
    have := I.disk.hk; rw [hcur] at this; simp at this
  have e1 := ch2.heap I.disk.hn hbnn
  have e2 := ch2.heap I.disk.hk hbkn
  have hcp := copy_str (w := w2.drew) (at_ := a2) e1 (rfl : bstr q = ⟨q.toArray⟩) (by rw [I.disk.len]; exact hq)
  rw [I.disk.len] at hcp
  have hlay : (lay (done.foldl lay now) (a2, q)).length = kept.length := by rw [lay_length (by rw [I.disk.len]; exact hq), I.disk.len]
  obtain ⟨w3, hw3⟩ : ∃ w3, w3 = w2.drew.setRow bn (byteCells (lay (done.foldl lay now) (a2, q))).toArray := ⟨_, rfl⟩
  have f1 := heap_setRow_far (w := w2.drew) d1 nnd (byteCells (lay (done.foldl lay now) (a2, q))).toArray
  have f2 := heap_setRow_far (w := w2.drew) d2 (show w.heap.size ≠ bn by omega) (byteCells (lay (done.foldl lay now) (a2, q))).toArray
  have f3 := heap_setRow_far (w := w2.drew) d3 (show W.heap.size ≠ bn by omega) (byteCells (lay (done.foldl lay now) (a2, q))).toArray
  have f4 := heap_setRow_far (w := w2.drew) d4 (show D + 1 ≠ bn by omega) (byteCells (lay (done.foldl lay now) (a2, q))).toArray
  have f5 := heap_setRow_at (w := w2.drew) (cs := (byteCells (lay (done.foldl lay now) (a2, q))).toArray) e1
  have f6 := heap_setRow_far (w := w2.drew) e2 D0.ne (byteCells (lay (done.foldl lay now) (a2, q))).toArray
  rw [← hw3] at hcp f1 f2 f3 f4 f5 f6
  have ch3 : Chg ((D + 1) :: bd :: bn :: own pv') W w3 := by
    rw [hw3]
    exact ((ch2.mono (by intro x hx; simp only [List.mem_cons] at hx ⊢; rcases hx with h | h | h <;> simp [h])).drew).setRow (.inl (by simp)) _
  have ch4 : Chg ((D + 1) :: bd :: bn :: own pv') W (w3.putObj (D + 1) (.loop rec)) := ch3.trans ((putObj_chg w3 (D + 1) (.loop rec)).mono (by simp)) (G := [D + 1]) (by simp)
  have hlp3 : D + 1 < w3.heap.size := heap_lt f4
  have far : ∀ {k : Nat} {o : Obj}, w3.heap[k]? = some o → k ≠ D + 1 → (w3.putObj (D + 1) (.loop rec)).heap[k]? = some o := fun {k o} hk hne => (World.putObj_heap_other hne).trans hk
  have hgcase : (pv'.ownBlock = some g) ∨ g = W.heap.size + 2 := by
    rcases hat with h | h
    · exact .inl (by rw [← h]; rfl)
    · right; simp only [Value.ownBlock, Option.some.injEq] at h; rw [h]; simp; omega
  have hgn : g ≠ bd ∧ g ≠ bn ∧ g ≠ D + 1 := by
    rcases hgcase with h | h
    · obtain ⟨cur, hcur⟩ := owns_cells I.disk.hp h
      refine ⟨heap_ne hcur I.disk.hd (by decide), heap_ne hcur I.disk.hn (by decide), ?_⟩
      have := hnol g h; simpa using this
    · omega
  refine ⟨g, (pend ++ done).length + 1, c, w1, w3, hr, ?_, ?_, ?_, ?_, ?_, ?_, ?_, f4, ?_⟩
  · intro ty; rw [← hV, ← hw2]; exact hcp ty
  · rw [hX] at hpb
    exact ⟨cell_of hbb rfl, cell_of hpb rfl, cell_of hpb rfl⟩
  · exact cell_of hbd rfl
  · exact ⟨cell_of b2 rfl, cell_of b3 rfl, cell_of b3 rfl⟩
  · rw [← hV, ← hw2]
    exact ⟨cell_of d2 rfl, cell_of d3 rfl, cell_of d3 rfl, cell_of d1 rfl⟩
  · exact ⟨cell_of b1 rfl, free_of b1⟩
  · exact ⟨cell_of f2 rfl, cell_of f3 rfl, cell_of f3 rfl, cell_of f1 rfl⟩
  · have hown3 : (w3.putObj (D + 1) (.loop rec)).ownsRow base 69 2 V (pend ++ (done ++ [(a2, q)])).length ((pend ++ (done ++ [(a2, q)])).flatMap pieceCells) := by
      have c13 : Chg [D + 1, bd, bn] w1 (w3.putObj (D + 1) (.loop rec)) := by
        rw [hw3, hw2]
        exact ((((Chg.refl _ w1).setCell (.inl (by simp)) _).drew).setRow (.inl (by simp)) _).trans ((putObj_chg _ _ _).mono (by simp)) (G := [D + 1]) (by simp)
      have := c13.owns hown' (fun k hk => by simp only [Value.ownBlock, Option.some.injEq] at hk; subst hk; simp; exact ⟨hgn.2.2, hgn.1, hgn.2.1⟩)
      rw [← hV] at this
      simpa [List.flatMap_append, pieceCells, bstr, Nat.add_assoc] using this
    refine ⟨⟨V, ⟨⟨?_, ?_, ?_, hown3, ?_, D0.ne, D0.lo, D0.hi, ?_, D0.b1, D0.b2, D0.b3⟩, ?_, ?_, ?_, ?_, ?_, ?_⟩⟩, ?_, ?_⟩
    · exact far (by simpa using f1) (by omega)
    · exact far f6 (by omega)
    · rw [List.foldl_append]; exact far f5 (by omega)
    · rw [List.foldl_append]; exact hlay
    · intro p hp
      rw [← List.append_assoc, List.mem_append, List.mem_singleton] at hp
      rcases hp with hp | rfl
      · exact I.disk.ok p hp
      · exact ⟨hq, by simp only; omega⟩
    · exact far f2 (by omega)
    · exact World.putObj_heap_same hlp3
    · exact ch4.heap I.defs (by
        simp only [List.mem_cons, not_or]
        refine ⟨by omega, by omega, by omega, ?_⟩
        intro hm
        simp only [own, Option.mem_toList] at hm
        obtain ⟨cur, hcur⟩ := owns_cells I.disk.hp hm
        have := I.defs; rw [hcur] at this; cases this)
    · exact I.chg.trans ch4 (by
        intro x hx
        simp only [List.mem_cons] at hx ⊢
        rcases hx with h | h | h | h
        · omega
        · simp [h]
        · simp [h]
        · simp only [own, Option.mem_toList] at h ⊢
          rcases I.own x h with h1 | h1
          · simp [h1]
          · omega)
    · intro k hk
      rw [hV] at hk
      simp only [Value.ownBlock, Option.some.injEq] at hk
      subst hk
      rcases hgcase with h | h
      · exact I.own _ h
      · omega
    · intro k hk
      rw [hV] at hk
      simp only [Value.ownBlock, Option.some.injEq] at hk
      subst hk
      rcases hgcase with h | h
      · exact I.nea _ h
      · omega
    · exact ch4.heap hba (by
        simp only [List.mem_cons, not_or]
        refine ⟨by omega, by omega, by omega, ?_⟩
        intro hm
        simp only [own, Option.mem_toList] at hm
        exact (I.nea _ hm).1 rfl)
    · exact ch4.heap hbs (by
        simp only [List.mem_cons, not_or]
        refine ⟨by omega, by omega, by omega, ?_⟩
        intro hm
        simp only [own, Option.mem_toList] at hm
        exact (I.nea _ hm).2 rfl)


set_option maxHeartbeats 1000000 in
theorem write_ok {w : World} {base bd bk bn : Nat} {pv : Value} {kept now : Bs} {pend : List (Nat × Bs)} (D : DiskAt w base bd bk bn pv kept now pend) (at_ : Nat) (s : Bs) (h : at_ + s.length ≤ kept.length) (hpl : pend.length ≤ 1000000000) :
    Calls Try.prog 25 #[.pointer (some ⟨bd, 0, none⟩), .int .i64 at_, .string (bstr s)] w (WritePost w base bd bk bn pv kept now pend at_ s) := by
  have hhi := D.hi
  have hbs := bstr_size s
  have D1 := D.keep (F := []) ((Chg.refl _ w).alloc (.cells #[.pointer (some ⟨bd, 0, none⟩)] 24)) (by simp) (by simp) (by simp) (by simp)
  have hw := within_any D1 at_ (bstr s).size (by omega) (by omega) (by omega) (by omega)
  rw [show wthB kept.length at_ (bstr s).size = true by simp [wthB]; omega] at hw
  have HW := hid hw
  have HD := hid D
  clear hw D1 D hbs
  obtain ⟨sv, hsv⟩ : ∃ sv, sv = bstr s := ⟨_, rfl⟩
  rw [← hsv] at HW ⊢
  have HSV := hid hsv
  clear hsv
  refine (callsIn_wide (n := 5)).1 ?_
  refine callsIn_of_wp_marks Try.func25 rfl trivial ?_ rfl
  simp only [Try.ntmps25, List.size_toArray, List.length_cons, List.length_nil, Nat.reduceAdd, Nat.reduceSub, Array.replicate_succ, Array.replicate_zero, List.push_toArray, List.append_toArray, List.nil_append, List.cons_append]
  gi_wp2_with (first | (gi_at_call 30; refine (callsIn_wide.2 HW.out).mono ?_; rintro e w' ⟨rfl, rfl⟩) | (gi_at_call 32; refine (callsIn_wide.2 (pieces_any _ _ _)).mono ?_; rintro e w' ⟨rfl, rfl⟩))
  refine wpIn_rangeFunc_wide (gf := 34) (lb := #[.pointer (some ⟨w.heap.size + 1 + 1, 0, none⟩), .pointer (some ⟨w.heap.size + 1, 0, none⟩)]) (by rfl) (enters_of Try.func34 (by kernel_rfl) rfl) ?_
  intro rec D hD r1 r2 r3 r4 r5 r6
  have hD' : D = w.heap.size + 3 := by rw [hD]; simp
  clear hD
  obtain ⟨W1, hW1⟩ : ∃ W1, ((((w.alloc (.cells #[.pointer (some ⟨bd, 0, none⟩)] 24)).alloc (.cells #[.int .i64 (at_ : Int)] 3)).alloc (.cells #[.string sv] 9)).alloc (.deferred (some []))).alloc (.loop rec) = W1 := ⟨_, rfl⟩
  rw [hW1]
  have h0 : PcInv (WrInv w base bd bk bn w.heap.size (w.heap.size + 1) (w.heap.size + 1 + 1) (D + 1) D rec pv kept now pend) (w.heap.size + 1) (w.heap.size + 1 + 1) [] at_ s W1 := by
    rw [← hW1, HSV.out, hD']
    exact write_start HD.out
  have HH := hid h
  have HR4 := hid r4
  show CallsIn Fence.wide 4 Try.prog 34 #[.func (.yield (D + 1)) #[] #[], .pointer (some ⟨w.heap.size + 1 + 1, 0, none⟩), .pointer (some ⟨w.heap.size + 1, 0, none⟩)] W1 _
  refine CallsIn.mono (CallsIn.more (pieces_in (D + 1) (w.heap.size + 1) (w.heap.size + 1 + 1) _ ?keep at_ s (by omega) ?round W1 h0) (by omega)) ?behind
  case keep => exact fun done W W' hc hi => write_keep (by omega) HD.out hc hi
  case behind =>
    rintro e W2 ⟨hv, pv', I2⟩
    refine ⟨hv, I2.loop, ?_⟩
    have hK : (W2.putObj (D + 1) (.loop { rec with state := .exhausted })).heap[D]? = some (.deferred (some [])) := (World.putObj_heap_other (by omega)).trans I2.defs
    have FIN := hid (write_end (o1 := .loop { rec with state := .exhausted }) (o2 := .deferred none) HD.out hD' I2)
    clear h h0 hW1 r1 r2 r3 r4 r5 r6
    gi_wp2
    refine ⟨by simp, .inl ⟨_, _, rfl, run_takeDeferred hK, ?_⟩⟩
    exact ⟨_, results_tmp (t := 6) rfl _ _ _, FIN.out⟩
  case round =>
    rintro done a2 r n W hr hn hd ⟨⟨pv', I⟩, hba, hbs⟩
    have hpm := parts_mem s.length at_ s (Nat.le_refl _) (a2, r.take n) (by rw [← hd, parts_cons hr hn]; simp)
    have hcnt : done.length + 1 ≤ s.length := by
      have := parts_count s.length at_ s (Nat.le_refl _)
      rw [← hd, parts_cons hr hn] at this
      simp at this
      omega
    obtain ⟨q, hq⟩ : ∃ q, q = r.take n := ⟨_, rfl⟩
    rw [← hq] at hpm ⊢
    obtain ⟨hq1, hq2, hq3⟩ := hpm
    simp only at hq1 hq2 hq3
    have hq0 : 0 < q.length := List.length_pos_iff.2 hq1
    clear hd hn hq h0 hW1 hr
    refine yield_round I.loop r1 r2 (by rw [r4]; rfl) ?_
    intro rb
    rw [r3, r4, r5, r6]
    clear r1 r2 r3 r4 r5 r6 HR4
    have HI := hid I
    have HA := hid hba
    have HB := hid hbs
    clear I hba hbs
    gi_wp2
    obtain ⟨g, N, c, w1, w3, happ, hcopy, hS0, hpv, hS1, hS3, hS2, hS5, hfl, hfin⟩ := write_round (rb := rb) HD.out hD' HI.out HA.out HB.out (by omega) hq0 (by have := HH.out; omega)
    refine ⟨heap_alloc_keep HI.out.loop _, ?_⟩
    have a1 : a2 < kept.length := by have := HH.out; omega
    have a3 : ¬ kept.length = a2 := by omega
    have a4 : (a2 : Int) ≤ (kept.length : Int) := by omega
    clear hcnt hq2 hq3 hq0
    obtain ⟨W2, hW2⟩ : ∃ W2, (W.alloc (.cells #[.int .i64 (a2 : Int), .string (bstr q)] 69)).putObj (D + 1) (.loop rb) = W2 := ⟨_, rfl⟩
    have hsz : W2.heap.size = W.heap.size + 1 := by rw [← hW2]; simp
    rw [hW2] at happ hS0 hpv ⊢
    have HSZ := hid hsz
    have hpv2 := (World.cell?_alloc_lt W2 (o := .cells #[.int .i64 (a2 : Int), .string (bstr q)] 69) _ (World.block_lt_of_cell? _ _ hpv)).trans hpv
    obtain ⟨hf1, hf2⟩ := hS2
    clear hW2
    gi_wp2
    refine wpIn_region_round (S := fun x => x.cell? ⟨w.heap.size, 0, none⟩ = some (.pointer (some ⟨bd, 0, none⟩)) ∧ x.cell? ⟨W.heap.size, 0, none⟩ = some (.int .i64 (a2 : Int)) ∧ x.cell? ⟨W.heap.size, 1, none⟩ = some (.string (bstr q))) (by kernel_rfl) (by kernel_rfl) (fun h => by obtain ⟨_, _, h⟩ := h; exact h) hS0 ?_
    intro hS
    refine wpAnyH_take (i := 0) (oi := { dst := some 22, op := Op.load 24 (Operand.tmp 3), type := 24, pos := "disk.go:69", after := #[], guard := none }) (v := ?_) rfl (by kernel_rfl) (by kernel_rfl) (by kernel_rfl) (fun _ _ _ h => h) (Or.inl ⟨by rfl, ?_⟩) hS ?_
    rotate_left 1
    · rintro wx ⟨s0, s1, s2⟩
      (go_simp <;> (try with_reducible rfl))
    try simp only [Act.put, List.setIfInBounds_toArray, List.set_cons_zero, List.set_cons_succ]
    refine wpAnyH_take (i := 1) (oi := { dst := some 23, op := Op.load 24 (Operand.tmp 3), type := 24, pos := "disk.go:69", after := #[], guard := none }) (v := ?_) rfl (by kernel_rfl) (by kernel_rfl) (by kernel_rfl) (fun _ _ _ h => h) (Or.inl ⟨by rfl, ?_⟩) hS ?_
    rotate_left 1
    · rintro wx ⟨s0, s1, s2⟩
      (go_simp <;> (try with_reducible rfl))
    try simp only [Act.put, List.setIfInBounds_toArray, List.set_cons_zero, List.set_cons_succ]
    refine wpAnyH_take (i := 2) (oi := { dst := some 24, op := Op.nilCheck (Operand.tmp 23), type := 0, pos := "disk.go:69", after := #[{ on := 1, ground := Ground.data }], guard := none }) (v := ?_) rfl (by kernel_rfl) (by kernel_rfl) (by kernel_rfl) (fun _ _ _ h => h) (Or.inl ⟨by rfl, ?_⟩) hS ?_
    rotate_left 1
    · rintro wx ⟨s0, s1, s2⟩
      (go_simp <;> (try with_reducible rfl))
    try simp only [Act.put, List.setIfInBounds_toArray, List.set_cons_zero, List.set_cons_succ]
    refine wpAnyH_take (i := 3) (oi := { dst := some 25, op := Op.fieldAddr 65 (Operand.tmp 24) 2, type := 0, pos := "disk.go:69", after := #[{ on := 2, ground := Ground.data }], guard := none }) (v := ?_) rfl (by kernel_rfl) (by kernel_rfl) (by kernel_rfl) (fun _ _ _ h => h) (Or.inl ⟨by rfl, ?_⟩) hS ?_
    rotate_left 1
    · rintro wx ⟨s0, s1, s2⟩
      (go_simp <;> (try with_reducible rfl))
    try simp only [Act.put, List.setIfInBounds_toArray, List.set_cons_zero, List.set_cons_succ]
    refine wpAnyH_take (i := 5) (oi := { dst := some 27, op := Op.load 69 (Operand.tmp 7), type := 69, pos := "disk.go:69", after := #[], guard := none }) (v := ?_) rfl (by kernel_rfl) (by kernel_rfl) (by kernel_rfl) (fun _ _ _ h => h) (Or.inl ⟨by rfl, ?_⟩) hS ?_
    rotate_left 1
    · rintro wx ⟨s0, s1, s2⟩
      (go_simp <;> (try with_reducible rfl))
    try simp only [Act.put, List.setIfInBounds_toArray, List.set_cons_zero, List.set_cons_succ]
    refine wpAnyH_ready (rs := [4, 6]) (by kernel_rfl) (by simp) ?_
    refine AllReadyH.cons (o := { dst := some 26, op := Op.load 63 (Operand.tmp 25), type := 63, pos := "disk.go:69", after := #[{ on := 3, ground := Ground.data }], guard := none }) rfl (fun K hK => ?_) (AllReadyH.cons (o := { dst := some 28, op := Op.buildSlice 63 1 #[(0, Operand.tmp 27)], type := 63, pos := "disk.go:69", after := #[{ on := 5, ground := Ground.data }], guard := none }) rfl (fun K hK => ?_) AllReadyH.nil)
    · go_simp
      refine hK.out _ _ hS (fun _ => ?_)
      clear hK K
      try simp only [Act.put, List.setIfInBounds_toArray, List.set_cons_zero, List.set_cons_succ]
      refine wpAnyH_ready (rs := [6]) (by kernel_rfl) (by simp) ?_
      refine AllReadyH.cons (o := { dst := some 28, op := Op.buildSlice 63 1 #[(0, Operand.tmp 27)], type := 63, pos := "disk.go:69", after := #[{ on := 5, ground := Ground.data }], guard := none }) rfl (fun K hK => ?_) AllReadyH.nil
      go_simp
      refine hK.out _ _ (held_alloc3 hS _) (fun hS => ?_)
      clear hK K
      try simp only [Act.put, List.setIfInBounds_toArray, List.set_cons_zero, List.set_cons_succ]
      refine wpAnyH_ready (rs := [7]) (by kernel_rfl) (by simp) ?_
      refine AllReadyH.cons (o := { dst := some 29, op := Op.call { callee := Callee.builtin Builtin.append, args := #[Operand.tmp 26, Operand.tmp 28], argTypes := #[63, 63] }, type := 63, pos := "disk.go:69", after := #[{ on := 4, ground := Ground.data }, { on := 6, ground := Ground.data }], guard := none }) rfl (fun K hK => ?_) AllReadyH.nil
      refine wpstep_append rfl (.tmp 26) (.tmp 28) 63 rfl (by rfl) (by rfl) happ ?_
      refine hK.out _ _ hS1 (fun hS => ?_)
      clear hK K
      try simp only [Act.put, List.setIfInBounds_toArray, List.set_cons_zero, List.set_cons_succ]
      refine wpAnyH_take (i := 8) (oi := { dst := some 30, op := Op.nilCheck (Operand.tmp 22), type := 0, pos := "disk.go:69", after := #[{ on := 0, ground := Ground.data }, { on := 0, ground := Ground.phase }, { on := 1, ground := Ground.phase }, { on := 2, ground := Ground.phase }, { on := 3, ground := Ground.phase }, { on := 4, ground := Ground.phase }, { on := 5, ground := Ground.phase }, { on := 6, ground := Ground.phase }, { on := 7, ground := Ground.phase }], guard := none }) (v := ?_) rfl (by kernel_rfl) (by kernel_rfl) (by kernel_rfl) (fun _ _ _ h => h) (Or.inl ⟨by rfl, ?_⟩) hS ?_
      rotate_left 1
      · rintro wx ⟨s0, s1, s2⟩
        (go_simp <;> (try with_reducible rfl))
      try simp only [Act.put, List.setIfInBounds_toArray, List.set_cons_zero, List.set_cons_succ]
      refine wpAnyH_take (i := 9) (oi := { dst := some 31, op := Op.fieldAddr 65 (Operand.tmp 30) 2, type := 0, pos := "disk.go:69", after := #[{ on := 8, ground := Ground.data }, { on := 0, ground := Ground.phase }, { on := 1, ground := Ground.phase }, { on := 2, ground := Ground.phase }, { on := 3, ground := Ground.phase }, { on := 4, ground := Ground.phase }, { on := 5, ground := Ground.phase }, { on := 6, ground := Ground.phase }, { on := 7, ground := Ground.phase }], guard := none }) (v := ?_) rfl (by kernel_rfl) (by kernel_rfl) (by kernel_rfl) (fun _ _ _ h => h) (Or.inl ⟨by rfl, ?_⟩) hS ?_
      rotate_left 1
      · rintro wx ⟨s0, s1, s2⟩
        (go_simp <;> (try with_reducible rfl))
      try simp only [Act.put, List.setIfInBounds_toArray, List.set_cons_zero, List.set_cons_succ]
      refine wpAnyH_ready (rs := [10]) (by kernel_rfl) (by simp) ?_
      refine AllReadyH.cons (o := { dst := none, op := Op.store 63 (Operand.tmp 31) (Operand.tmp 29), type := 0, pos := "disk.go:69", after := #[{ on := 9, ground := Ground.data }, { on := 7, ground := Ground.data }, { on := 7, ground := Ground.chain }, { on := 0, ground := Ground.phase }, { on := 1, ground := Ground.phase }, { on := 2, ground := Ground.phase }, { on := 3, ground := Ground.phase }, { on := 4, ground := Ground.phase }, { on := 5, ground := Ground.phase }, { on := 6, ground := Ground.phase }, { on := 7, ground := Ground.phase }], guard := none }) rfl (fun K hK => ?_) AllReadyH.nil
      go_simp
      refine hK.out _ _ ⟨hS3.1, hS3.2.1, hS3.2.2.1⟩ (fun hS => ?_)
      clear hK K
      try simp only [Act.put, List.setIfInBounds_toArray, List.set_cons_zero, List.set_cons_succ]
      refine wpAnyH_done (by kernel_rfl) ?_ _
      gi_wp2
      refine wpIn_region_round (S := fun x => x.cell? ⟨w.heap.size, 0, none⟩ = some (.pointer (some ⟨bd, 0, none⟩)) ∧ x.cell? ⟨W.heap.size, 0, none⟩ = some (.int .i64 (a2 : Int)) ∧ x.cell? ⟨W.heap.size, 1, none⟩ = some (.string (bstr q)) ∧ x.cell? ⟨bd, 1, none⟩ = some (.slice (some ⟨bn, 0, none⟩) kept.length kept.length)) (by kernel_rfl) (by kernel_rfl) (fun h => by obtain ⟨_, _, h⟩ := h; exact h) hS3 ?_
      intro hS
      refine wpAnyH_take (i := 0) (oi := { dst := some 32, op := Op.load 24 (Operand.tmp 3), type := 24, pos := "disk.go:70", after := #[], guard := none }) (v := ?_) rfl (by kernel_rfl) (by kernel_rfl) (by kernel_rfl) (fun _ _ _ h => h) (Or.inl ⟨by rfl, ?_⟩) hS ?_
      rotate_left 1
      · rintro wx ⟨s0, s1, s2, s3⟩
        (go_simp <;> (try with_reducible rfl))
      try simp only [Act.put, List.setIfInBounds_toArray, List.set_cons_zero, List.set_cons_succ]
      refine wpAnyH_take (i := 1) (oi := { dst := some 33, op := Op.nilCheck (Operand.tmp 32), type := 0, pos := "disk.go:70", after := #[{ on := 0, ground := Ground.data }], guard := none }) (v := ?_) rfl (by kernel_rfl) (by kernel_rfl) (by kernel_rfl) (fun _ _ _ h => h) (Or.inl ⟨by rfl, ?_⟩) hS ?_
      rotate_left 1
      · rintro wx ⟨s0, s1, s2, s3⟩
        (go_simp <;> (try with_reducible rfl))
      try simp only [Act.put, List.setIfInBounds_toArray, List.set_cons_zero, List.set_cons_succ]
      refine wpAnyH_take (i := 2) (oi := { dst := some 34, op := Op.fieldAddr 65 (Operand.tmp 33) 1, type := 0, pos := "disk.go:70", after := #[{ on := 1, ground := Ground.data }], guard := none }) (v := ?_) rfl (by kernel_rfl) (by kernel_rfl) (by kernel_rfl) (fun _ _ _ h => h) (Or.inl ⟨by rfl, ?_⟩) hS ?_
      rotate_left 1
      · rintro wx ⟨s0, s1, s2, s3⟩
        (go_simp <;> (try with_reducible rfl))
      try simp only [Act.put, List.setIfInBounds_toArray, List.set_cons_zero, List.set_cons_succ]
      refine wpAnyH_take (i := 3) (oi := { dst := some 35, op := Op.load 35 (Operand.tmp 34), type := 35, pos := "disk.go:70", after := #[{ on := 2, ground := Ground.data }], guard := none }) (v := ?_) rfl (by kernel_rfl) (by kernel_rfl) (by kernel_rfl) (fun _ _ _ h => h) (Or.inl ⟨by rfl, ?_⟩) hS ?_
      rotate_left 1
      · rintro wx ⟨s0, s1, s2, s3⟩
        (go_simp <;> (try with_reducible rfl))
      try simp only [Act.put, List.setIfInBounds_toArray, List.set_cons_zero, List.set_cons_succ]
      refine wpAnyH_take (i := 4) (oi := { dst := some 36, op := Op.fieldAddr 69 (Operand.tmp 7) 0, type := 0, pos := "disk.go:70", after := #[], guard := none }) (v := ?_) rfl (by kernel_rfl) (by kernel_rfl) (by kernel_rfl) (fun _ _ _ h => h) (Or.inl ⟨by rfl, ?_⟩) hS ?_
      rotate_left 1
      · rintro wx ⟨s0, s1, s2, s3⟩
        (go_simp <;> (try with_reducible rfl))
      try simp only [Act.put, List.setIfInBounds_toArray, List.set_cons_zero, List.set_cons_succ]
      refine wpAnyH_take (i := 5) (oi := { dst := some 37, op := Op.load 3 (Operand.tmp 36), type := 3, pos := "disk.go:70", after := #[{ on := 4, ground := Ground.data }], guard := none }) (v := ?_) rfl (by kernel_rfl) (by kernel_rfl) (by kernel_rfl) (fun _ _ _ h => h) (Or.inl ⟨by rfl, ?_⟩) hS ?_
      rotate_left 1
      · rintro wx ⟨s0, s1, s2, s3⟩
        (go_simp <;> (try with_reducible rfl))
      try simp only [Act.put, List.setIfInBounds_toArray, List.set_cons_zero, List.set_cons_succ]
      refine wpAnyH_take (i := 6) (oi := { dst := some 38, op := Op.slice 35 (Operand.tmp 35) (some (Operand.tmp 37)) none none, type := 35, pos := "disk.go:70", after := #[{ on := 3, ground := Ground.data }, { on := 5, ground := Ground.data }], guard := none }) (v := ?_) rfl (by kernel_rfl) (by kernel_rfl) (by kernel_rfl) (fun _ _ _ h => h) (Or.inl ⟨by rfl, ?_⟩) hS ?_
      rotate_left 1
      · rintro wx ⟨s0, s1, s2, s3⟩
        (go_simp <;> (try with_reducible rfl))
      try simp only [Act.put, List.setIfInBounds_toArray, List.set_cons_zero, List.set_cons_succ]
      refine wpAnyH_take (i := 7) (oi := { dst := some 39, op := Op.fieldAddr 69 (Operand.tmp 7) 1, type := 0, pos := "disk.go:70", after := #[], guard := none }) (v := ?_) rfl (by kernel_rfl) (by kernel_rfl) (by kernel_rfl) (fun _ _ _ h => h) (Or.inl ⟨by rfl, ?_⟩) hS ?_
      rotate_left 1
      · rintro wx ⟨s0, s1, s2, s3⟩
        (go_simp <;> (try with_reducible rfl))
      try simp only [Act.put, List.setIfInBounds_toArray, List.set_cons_zero, List.set_cons_succ]
      refine wpAnyH_take (i := 8) (oi := { dst := some 40, op := Op.load 9 (Operand.tmp 39), type := 9, pos := "disk.go:70", after := #[{ on := 7, ground := Ground.data }], guard := none }) (v := ?_) rfl (by kernel_rfl) (by kernel_rfl) (by kernel_rfl) (fun _ _ _ h => h) (Or.inl ⟨by rfl, ?_⟩) hS ?_
      rotate_left 1
      · rintro wx ⟨s0, s1, s2, s3⟩
        (go_simp <;> (try with_reducible rfl))
      try simp only [Act.put, List.setIfInBounds_toArray, List.set_cons_zero, List.set_cons_succ]
      refine wpAnyH_ready (rs := [9]) (by kernel_rfl) (by simp) ?_
      refine AllReadyH.cons (o := { dst := some 41, op := Op.call { callee := Callee.builtin Builtin.copy, args := #[Operand.tmp 38, Operand.tmp 40], argTypes := #[35, 9] }, type := 3, pos := "disk.go:70", after := #[{ on := 6, ground := Ground.data }, { on := 8, ground := Ground.data }], guard := none }) rfl (fun K hK => ?_) AllReadyH.nil
      go_simp
      refine hK.out _ _ hS5 (fun hS => ?_)
      clear hK K
      try simp only [Act.put, List.setIfInBounds_toArray, List.set_cons_zero, List.set_cons_succ]
      refine wpAnyH_done (by kernel_rfl) ?_ _
      exact ⟨hfl, trivial, hfin⟩
    · go_simp
      refine hK.out _ _ (held_alloc3 hS _) (fun hS => ?_)
      clear hK K
      try simp only [Act.put, List.setIfInBounds_toArray, List.set_cons_zero, List.set_cons_succ]
      refine wpAnyH_ready (rs := [4]) (by kernel_rfl) (by simp) ?_
      refine AllReadyH.cons (o := { dst := some 26, op := Op.load 63 (Operand.tmp 25), type := 63, pos := "disk.go:69", after := #[{ on := 3, ground := Ground.data }], guard := none }) rfl (fun K hK => ?_) AllReadyH.nil
      go_simp
      refine hK.out _ _ hS (fun _ => ?_)
      clear hK K
      try simp only [Act.put, List.setIfInBounds_toArray, List.set_cons_zero, List.set_cons_succ]
      refine wpAnyH_ready (rs := [7]) (by kernel_rfl) (by simp) ?_
      refine AllReadyH.cons (o := { dst := some 29, op := Op.call { callee := Callee.builtin Builtin.append, args := #[Operand.tmp 26, Operand.tmp 28], argTypes := #[63, 63] }, type := 63, pos := "disk.go:69", after := #[{ on := 4, ground := Ground.data }, { on := 6, ground := Ground.data }], guard := none }) rfl (fun K hK => ?_) AllReadyH.nil
      refine wpstep_append rfl (.tmp 26) (.tmp 28) 63 rfl (by rfl) (by rfl) happ ?_
      refine hK.out _ _ hS1 (fun hS => ?_)
      clear hK K
      try simp only [Act.put, List.setIfInBounds_toArray, List.set_cons_zero, List.set_cons_succ]
      refine wpAnyH_take (i := 8) (oi := { dst := some 30, op := Op.nilCheck (Operand.tmp 22), type := 0, pos := "disk.go:69", after := #[{ on := 0, ground := Ground.data }, { on := 0, ground := Ground.phase }, { on := 1, ground := Ground.phase }, { on := 2, ground := Ground.phase }, { on := 3, ground := Ground.phase }, { on := 4, ground := Ground.phase }, { on := 5, ground := Ground.phase }, { on := 6, ground := Ground.phase }, { on := 7, ground := Ground.phase }], guard := none }) (v := ?_) rfl (by kernel_rfl) (by kernel_rfl) (by kernel_rfl) (fun _ _ _ h => h) (Or.inl ⟨by rfl, ?_⟩) hS ?_
      rotate_left 1
      · rintro wx ⟨s0, s1, s2⟩
        (go_simp <;> (try with_reducible rfl))
      try simp only [Act.put, List.setIfInBounds_toArray, List.set_cons_zero, List.set_cons_succ]
      refine wpAnyH_take (i := 9) (oi := { dst := some 31, op := Op.fieldAddr 65 (Operand.tmp 30) 2, type := 0, pos := "disk.go:69", after := #[{ on := 8, ground := Ground.data }, { on := 0, ground := Ground.phase }, { on := 1, ground := Ground.phase }, { on := 2, ground := Ground.phase }, { on := 3, ground := Ground.phase }, { on := 4, ground := Ground.phase }, { on := 5, ground := Ground.phase }, { on := 6, ground := Ground.phase }, { on := 7, ground := Ground.phase }], guard := none }) (v := ?_) rfl (by kernel_rfl) (by kernel_rfl) (by kernel_rfl) (fun _ _ _ h => h) (Or.inl ⟨by rfl, ?_⟩) hS ?_
      rotate_left 1
      · rintro wx ⟨s0, s1, s2⟩
        (go_simp <;> (try with_reducible rfl))
      try simp only [Act.put, List.setIfInBounds_toArray, List.set_cons_zero, List.set_cons_succ]
      refine wpAnyH_ready (rs := [10]) (by kernel_rfl) (by simp) ?_
      refine AllReadyH.cons (o := { dst := none, op := Op.store 63 (Operand.tmp 31) (Operand.tmp 29), type := 0, pos := "disk.go:69", after := #[{ on := 9, ground := Ground.data }, { on := 7, ground := Ground.data }, { on := 7, ground := Ground.chain }, { on := 0, ground := Ground.phase }, { on := 1, ground := Ground.phase }, { on := 2, ground := Ground.phase }, { on := 3, ground := Ground.phase }, { on := 4, ground := Ground.phase }, { on := 5, ground := Ground.phase }, { on := 6, ground := Ground.phase }, { on := 7, ground := Ground.phase }], guard := none }) rfl (fun K hK => ?_) AllReadyH.nil
      go_simp
      refine hK.out _ _ ⟨hS3.1, hS3.2.1, hS3.2.2.1⟩ (fun hS => ?_)
      clear hK K
      try simp only [Act.put, List.setIfInBounds_toArray, List.set_cons_zero, List.set_cons_succ]
      refine wpAnyH_done (by kernel_rfl) ?_ _
      gi_wp2
      refine wpIn_region_round (S := fun x => x.cell? ⟨w.heap.size, 0, none⟩ = some (.pointer (some ⟨bd, 0, none⟩)) ∧ x.cell? ⟨W.heap.size, 0, none⟩ = some (.int .i64 (a2 : Int)) ∧ x.cell? ⟨W.heap.size, 1, none⟩ = some (.string (bstr q)) ∧ x.cell? ⟨bd, 1, none⟩ = some (.slice (some ⟨bn, 0, none⟩) kept.length kept.length)) (by kernel_rfl) (by kernel_rfl) (fun h => by obtain ⟨_, _, h⟩ := h; exact h) hS3 ?_
      intro hS
      refine wpAnyH_take (i := 0) (oi := { dst := some 32, op := Op.load 24 (Operand.tmp 3), type := 24, pos := "disk.go:70", after := #[], guard := none }) (v := ?_) rfl (by kernel_rfl) (by kernel_rfl) (by kernel_rfl) (fun _ _ _ h => h) (Or.inl ⟨by rfl, ?_⟩) hS ?_
      rotate_left 1
      · rintro wx ⟨s0, s1, s2, s3⟩
        (go_simp <;> (try with_reducible rfl))
      try simp only [Act.put, List.setIfInBounds_toArray, List.set_cons_zero, List.set_cons_succ]
      refine wpAnyH_take (i := 1) (oi := { dst := some 33, op := Op.nilCheck (Operand.tmp 32), type := 0, pos := "disk.go:70", after := #[{ on := 0, ground := Ground.data }], guard := none }) (v := ?_) rfl (by kernel_rfl) (by kernel_rfl) (by kernel_rfl) (fun _ _ _ h => h) (Or.inl ⟨by rfl, ?_⟩) hS ?_
      rotate_left 1
      · rintro wx ⟨s0, s1, s2, s3⟩
        (go_simp <;> (try with_reducible rfl))
      try simp only [Act.put, List.setIfInBounds_toArray, List.set_cons_zero, List.set_cons_succ]
      refine wpAnyH_take (i := 2) (oi := { dst := some 34, op := Op.fieldAddr 65 (Operand.tmp 33) 1, type := 0, pos := "disk.go:70", after := #[{ on := 1, ground := Ground.data }], guard := none }) (v := ?_) rfl (by kernel_rfl) (by kernel_rfl) (by kernel_rfl) (fun _ _ _ h => h) (Or.inl ⟨by rfl, ?_⟩) hS ?_
      rotate_left 1
      · rintro wx ⟨s0, s1, s2, s3⟩
        (go_simp <;> (try with_reducible rfl))
      try simp only [Act.put, List.setIfInBounds_toArray, List.set_cons_zero, List.set_cons_succ]
      refine wpAnyH_take (i := 3) (oi := { dst := some 35, op := Op.load 35 (Operand.tmp 34), type := 35, pos := "disk.go:70", after := #[{ on := 2, ground := Ground.data }], guard := none }) (v := ?_) rfl (by kernel_rfl) (by kernel_rfl) (by kernel_rfl) (fun _ _ _ h => h) (Or.inl ⟨by rfl, ?_⟩) hS ?_
      rotate_left 1
      · rintro wx ⟨s0, s1, s2, s3⟩
        (go_simp <;> (try with_reducible rfl))
      try simp only [Act.put, List.setIfInBounds_toArray, List.set_cons_zero, List.set_cons_succ]
      refine wpAnyH_take (i := 4) (oi := { dst := some 36, op := Op.fieldAddr 69 (Operand.tmp 7) 0, type := 0, pos := "disk.go:70", after := #[], guard := none }) (v := ?_) rfl (by kernel_rfl) (by kernel_rfl) (by kernel_rfl) (fun _ _ _ h => h) (Or.inl ⟨by rfl, ?_⟩) hS ?_
      rotate_left 1
      · rintro wx ⟨s0, s1, s2, s3⟩
        (go_simp <;> (try with_reducible rfl))
      try simp only [Act.put, List.setIfInBounds_toArray, List.set_cons_zero, List.set_cons_succ]
      refine wpAnyH_take (i := 5) (oi := { dst := some 37, op := Op.load 3 (Operand.tmp 36), type := 3, pos := "disk.go:70", after := #[{ on := 4, ground := Ground.data }], guard := none }) (v := ?_) rfl (by kernel_rfl) (by kernel_rfl) (by kernel_rfl) (fun _ _ _ h => h) (Or.inl ⟨by rfl, ?_⟩) hS ?_
      rotate_left 1
      · rintro wx ⟨s0, s1, s2, s3⟩
        (go_simp <;> (try with_reducible rfl))
      try simp only [Act.put, List.setIfInBounds_toArray, List.set_cons_zero, List.set_cons_succ]
      refine wpAnyH_take (i := 6) (oi := { dst := some 38, op := Op.slice 35 (Operand.tmp 35) (some (Operand.tmp 37)) none none, type := 35, pos := "disk.go:70", after := #[{ on := 3, ground := Ground.data }, { on := 5, ground := Ground.data }], guard := none }) (v := ?_) rfl (by kernel_rfl) (by kernel_rfl) (by kernel_rfl) (fun _ _ _ h => h) (Or.inl ⟨by rfl, ?_⟩) hS ?_
      rotate_left 1
      · rintro wx ⟨s0, s1, s2, s3⟩
        (go_simp <;> (try with_reducible rfl))
      try simp only [Act.put, List.setIfInBounds_toArray, List.set_cons_zero, List.set_cons_succ]
      refine wpAnyH_take (i := 7) (oi := { dst := some 39, op := Op.fieldAddr 69 (Operand.tmp 7) 1, type := 0, pos := "disk.go:70", after := #[], guard := none }) (v := ?_) rfl (by kernel_rfl) (by kernel_rfl) (by kernel_rfl) (fun _ _ _ h => h) (Or.inl ⟨by rfl, ?_⟩) hS ?_
      rotate_left 1
      · rintro wx ⟨s0, s1, s2, s3⟩
        (go_simp <;> (try with_reducible rfl))
      try simp only [Act.put, List.setIfInBounds_toArray, List.set_cons_zero, List.set_cons_succ]
      refine wpAnyH_take (i := 8) (oi := { dst := some 40, op := Op.load 9 (Operand.tmp 39), type := 9, pos := "disk.go:70", after := #[{ on := 7, ground := Ground.data }], guard := none }) (v := ?_) rfl (by kernel_rfl) (by kernel_rfl) (by kernel_rfl) (fun _ _ _ h => h) (Or.inl ⟨by rfl, ?_⟩) hS ?_
      rotate_left 1
      · rintro wx ⟨s0, s1, s2, s3⟩
        (go_simp <;> (try with_reducible rfl))
      try simp only [Act.put, List.setIfInBounds_toArray, List.set_cons_zero, List.set_cons_succ]
      refine wpAnyH_ready (rs := [9]) (by kernel_rfl) (by simp) ?_
      refine AllReadyH.cons (o := { dst := some 41, op := Op.call { callee := Callee.builtin Builtin.copy, args := #[Operand.tmp 38, Operand.tmp 40], argTypes := #[35, 9] }, type := 3, pos := "disk.go:70", after := #[{ on := 6, ground := Ground.data }, { on := 8, ground := Ground.data }], guard := none }) rfl (fun K hK => ?_) AllReadyH.nil
      go_simp
      refine hK.out _ _ hS5 (fun hS => ?_)
      clear hK K
      try simp only [Act.put, List.setIfInBounds_toArray, List.set_cons_zero, List.set_cons_succ]
      refine wpAnyH_done (by kernel_rfl) ?_ _
      exact ⟨hfl, trivial, hfin⟩

end Go.Proofs.Ytknmebknkncmoaa
