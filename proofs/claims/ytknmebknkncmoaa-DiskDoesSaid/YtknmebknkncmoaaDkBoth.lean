/- The two disks side by side: a call of the one, then the same call of the other: both tell the same, and stand alike again. -/
import Derived.Test.YtknmebknkncmoaaDkRefW
namespace Go.Proofs.Ytknmebknkncmoaa
open Go.RowKit Go.Lib

/-- both disks, the same bytes and pieces, apart in memory -/
structure Both (w : World) (B bd bk bn rb : Nat) (dv kv rv : Value) (kept now : Bs) (pend : List (Nat × Bs)) : Prop where
  disk : DiskAt w B bd bk bn dv kept now pend
  ref : RefAt w B rb kv rv kept pend
  same : now = pend.foldl lay kept
  apart : ∀ g, kv.ownBlock = some g → g ≠ bk ∧ g ≠ bn

/-- behind the disk's call, ahead of the document's -/
structure Mid (w : World) (B bd bk bn rb : Nat) (dv kv rv : Value) (kept kept1 now1 : Bs) (pend pend1 : List (Nat × Bs)) : Prop where
  disk : DiskAt w B bd bk bn dv kept1 now1 pend1
  ref : RefAt w B rb kv rv kept pend
  apart : ∀ g, kv.ownBlock = some g → g ≠ bk ∧ g ≠ bn

section
variable {x w1 w2 : World} {B bd bk bn rb : Nat} {dv dv1 kv kv2 rv rv2 : Value} {kept kept1 now now1 : Bs} {pend pend1 : List (Nat × Bs)}

theorem row_not_in {b n size : Nat} {v : Value} {xs : List Value} {t t2 : TypeId} {k : Nat} {cs : Array Value} (h : x.ownsRow b t size v n xs) (hk : x.heap[k]? = some (.cells cs t2 (0, 0))) (ht : t ≠ t2) : k ∉ own v := fun hm => by
  simp only [own, Option.mem_toList] at hm
  obtain ⟨cur, hc⟩ := owns_cells h hm
  exact heap_ne hc hk ht rfl
theorem disk_own_low (D : DiskAt x B bd bk bn dv kept now pend) : ∀ k ∈ bd :: bk :: bn :: own dv, B ≤ k := by
  intro k hk
  simp only [List.mem_cons] at hk
  rcases hk with rfl | rfl | rfl | hk
  · exact D.b1
  · exact D.b2
  · exact D.b3
  · simp only [own, Option.mem_toList] at hk
    exact (D.hp.lt k hk).1

theorem disk_free {k : Nat} {cs : Array Value} {t : TypeId} (D : DiskAt x B bd bk bn dv kept now pend) (hk : x.heap[k]? = some (.cells cs t (0, 0))) (h1 : t ≠ 65) (h2 : t ≠ 69) (h3 : k ≠ bk ∧ k ≠ bn) : k ∉ bd :: bk :: bn :: own dv := by
  simp only [List.mem_cons, not_or]
  exact ⟨heap_ne hk D.hd h1, h3.1, h3.2, row_not_in D.hp hk (Ne.symm h2)⟩
theorem disk_free5 {k : Nat} {cs : Array Value} {t : TypeId} (D : DiskAt x B bd bk bn dv kept now pend) (hk : x.heap[k]? = some (.cells cs t (0, 0))) (h1 : t ≠ 65) (h2 : t ≠ 69) (h3 : t ≠ 5) : k ∉ bd :: bk :: bn :: own dv :=
  disk_free D hk h1 h2 ⟨heap_ne hk D.hk h3, heap_ne hk D.hn h3⟩

theorem Both.mid (T : Both x B bd bk bn rb dv kv rv kept now pend) (h : Chg (bd :: bk :: bn :: own dv) x w1) (D1 : DiskAt w1 B bd bk bn dv1 kept1 now1 pend1) :
    Mid w1 B bd bk bn rb dv1 kv rv kept kept1 now1 pend pend1 ∧ Below B x w1 := by
  refine ⟨⟨D1, T.ref.keep h (disk_free5 T.disk T.ref.hd (by decide) (by decide) (by decide)) ?_ ?_, T.apart⟩, h.below (disk_own_low T.disk) ?_⟩
  · intro g hg
    obtain ⟨cur, hc⟩ := owns_cells T.ref.hk hg
    exact disk_free T.disk hc (by decide) (by decide) (T.apart g hg)
  · intro g hg
    obtain ⟨cur, hc⟩ := owns_cells T.ref.hp hg
    exact disk_free5 T.disk hc (by decide) (by decide) (by decide)
  · have := T.disk.b1; have := heap_lt T.disk.hd; omega

theorem Mid.both (M : Mid w1 B bd bk bn rb dv1 kv rv kept kept1 now1 pend pend1) (h : Chg (rb :: own rv) w1 w2) (R2 : RefAt w2 B rb kv2 rv2 kept1 pend1) (ho : ∀ g, kv2.ownBlock = some g → kv.ownBlock = some g ∨ w1.heap.size ≤ g)
    (hn : now1 = pend1.foldl lay kept1) : Both w2 B bd bk bn rb dv1 kv2 rv2 kept1 now1 pend1 ∧ Below B w1 w2 := by
  have key : ∀ {k : Nat} {cs : Array Value} {t : TypeId}, w1.heap[k]? = some (.cells cs t (0, 0)) → t ≠ 38 → t ≠ 58 → k ∉ rb :: own rv := fun {k cs t} hk h1 h2 => by
    simp only [List.mem_cons, not_or]
    exact ⟨heap_ne hk M.ref.hd h1, row_not_in M.ref.hp hk (Ne.symm h2)⟩
  have hl := disk_lt M.disk
  refine ⟨⟨M.disk.keep h (key M.disk.hd (by decide) (by decide)) (key M.disk.hk (by decide) (by decide)) (key M.disk.hn (by decide) (by decide)) (fun g hg => ?_), R2, hn, fun g hg => ?_⟩, h.below ?_ ?_⟩
  · obtain ⟨cur, hc⟩ := owns_cells M.disk.hp hg
    exact key hc (by decide) (by decide)
  · rcases ho g hg with h1 | h1
    · exact M.apart g h1
    · omega
  · intro k hk
    simp only [List.mem_cons] at hk
    rcases hk with rfl | hk
    · exact M.ref.b1
    · simp only [own, Option.mem_toList] at hk
      exact (M.ref.hp.lt k hk).1
  · have := M.disk.b1; omega
end

/-- what a call of both comes to -/
structure OpEnd (B bd bk bn rb : Nat) (dv kv rv : Value) (kept now : Bs) (pend : List (Nat × Bs)) (f1 f2 : FuncId) (a1 a2 : Array Value) (J : World → Prop) (code : Int) (kept1 now1 : Bs) (pend1 : List (Nat × Bs)) : Prop where
  one : ∀ x, Both x B bd bk bn rb dv kv rv kept now pend → (∀ y, Chg (bd :: bk :: bn :: own dv) x y → J y) →
    Calls Try.prog f1 a1 x fun e w1 => e = .returned (.int .i64 code) ∧ ∃ dv1, Mid w1 B bd bk bn rb dv1 kv rv kept kept1 now1 pend pend1 ∧ Below B x w1 ∧ J w1
  two : ∀ w1 dv1, Mid w1 B bd bk bn rb dv1 kv rv kept kept1 now1 pend pend1 → J w1 →
    Calls Try.prog f2 a2 w1 fun e w2 => e = .returned (.int .i64 code) ∧ ∃ kv2 rv2, Both w2 B bd bk bn rb dv1 kv2 rv2 kept1 now1 pend1 ∧ Below B w1 w2
  len : kept1.length = kept.length

theorem op_write {J : World → Prop} {B bd bk bn rb : Nat} {dv kv rv : Value} {kept now : Bs} {pend : List (Nat × Bs)} (hn : now = pend.foldl lay kept) (hpl : pend.length ≤ 1000000) (place : Int) (t : Bs)
    (h1 : -9223372036854775808 ≤ place) (h2 : place ≤ 9223372036854775807) (ht : t.length ≤ 9223372036854775807) :
    ∃ code kept1 now1 pend1, OpEnd B bd bk bn rb dv kv rv kept now pend 25 27 #[.pointer (some ⟨bd, 0, none⟩), .int .i64 place, .string (bstr t)] #[.pointer (some ⟨rb, 0, none⟩), .int .i64 place, .string (bstr t)] J code kept1 now1 pend1 ∧
      pend1.length ≤ pend.length + t.length := by
  by_cases hw : wthB kept.length place t.length = true
  · simp only [wthB, Bool.and_eq_true, decide_eq_true_eq] at hw
    obtain ⟨a, rfl⟩ := Int.eq_ofNat_of_zero_le hw.1.1.1
    have hf : a + t.length ≤ kept.length := by omega
    refine ⟨0, kept, (parts a t).foldl lay now, pend ++ parts a t, ⟨fun x T hI => ?_, fun w1 dv1 M _ => ?_, rfl⟩, ?_⟩
    · refine (write_ok T.disk a t hf (by omega)).mono ?_
      rintro e w1 ⟨rfl, dv1, D1, ch, _⟩
      have ch' : Chg (bd :: bk :: bn :: own dv) x w1 := ch.mono (by simp +contextual)
      obtain ⟨m1, m2⟩ := T.mid ch' D1
      exact ⟨rfl, dv1, m1, m2, hI w1 ch'⟩
    · refine (ref_write_ok M.ref a t hf (by omega)).mono ?_
      rintro e w2 ⟨rfl, rv2, R2, ch, _⟩
      obtain ⟨m1, m2⟩ := M.both ch R2 (fun g hg => .inl hg) (by rw [List.foldl_append, ← hn])
      exact ⟨rfl, kv, rv2, m1, m2⟩
    · have := parts_count t.length a t (Nat.le_refl _)
      simp; omega
  · have hw' : wthB kept.length place (bstr t).size = false := by rw [bstr_size]; simpa using hw
    refine ⟨260, kept, now, pend, ⟨fun x T hI => ?_, fun w1 dv1 M _ => ?_, rfl⟩, by omega⟩
    · refine (write_bad T.disk place (bstr t) h1 h2 (by rw [bstr_size]; exact ht) hw').mono ?_
      rintro e w1 ⟨rfl, b1⟩
      have ch' : Chg (bd :: bk :: bn :: own dv) x w1 := (Chg.of_below (F := []) b1).mono (by simp)
      obtain ⟨m1, m2⟩ := T.mid ch' (T.disk.later b1)
      exact ⟨rfl, dv, m1, m2, hI w1 ch'⟩
    · refine (ref_write_bad M.ref place (bstr t) h1 h2 (by rw [bstr_size]; exact ht) hw').mono ?_
      rintro e w2 ⟨rfl, rfl⟩
      obtain ⟨m1, m2⟩ := M.both (Chg.refl _ w1) M.ref (fun g hg => .inl hg) hn
      exact ⟨rfl, kv, rv, m1, m2⟩

theorem op_sync {J : World → Prop} {B bd bk bn rb : Nat} {dv kv rv : Value} {kept now : Bs} {pend : List (Nat × Bs)} (hn : now = pend.foldl lay kept) (hl : now.length = kept.length) :
    OpEnd B bd bk bn rb dv kv rv kept now pend 24 28 #[.pointer (some ⟨bd, 0, none⟩)] #[.pointer (some ⟨rb, 0, none⟩)] J 0 now now [] := by
  refine ⟨fun x T hI => ?_, fun w1 dv1 M _ => ?_, hl⟩
  · refine (sync_any T.disk).mono ?_
    rintro e w1 ⟨rfl, D1, ch⟩
    have ch' : Chg (bd :: bk :: bn :: own dv) x w1 := ch.mono (by simp +contextual)
    obtain ⟨m1, m2⟩ := T.mid ch' D1
    exact ⟨rfl, _, m1, m2, hI w1 ch'⟩
  · refine (ref_sync M.ref).mono ?_
    rintro e w2 ⟨rfl, kv2, R2, ch, ho⟩
    rw [← hn] at R2
    obtain ⟨m1, m2⟩ := M.both (ch.mono (by simp)) R2 ho rfl
    exact ⟨rfl, kv2, _, m1, m2⟩

theorem op_crash {J : World → Prop} {B bd bk bn rb : Nat} {dv kv rv : Value} {kept now : Bs} {pend : List (Nat × Bs)} (hn : now = pend.foldl lay kept) (hpl : pend.length ≤ 1000000) (hok : ∀ p ∈ pend, p.1 + p.2.length ≤ kept.length) (v : Value) (ks : List Int) (hJ : ∀ y, J y → IntsAt y v ks)
    (hr : ∀ x ∈ ks, -9223372036854775808 ≤ x ∧ x ≤ 9223372036854775807) (hlen : ks.length ≤ 9223372036854775807) :
    ∃ code kept1 now1 pend1, OpEnd B bd bk bn rb dv kv rv kept now pend 21 29 #[.pointer (some ⟨bd, 0, none⟩), v] #[.pointer (some ⟨rb, 0, none⟩), v] J code kept1 now1 pend1 ∧ pend1.length ≤ pend.length := by
  by_cases hk : KeepOk pend.length ks
  · refine ⟨0, (ks.map (pieceOf pend)).foldl lay kept, (ks.map (pieceOf pend)).foldl lay kept, [], ⟨fun x T hI => ?_, fun w1 dv1 M hI => ?_, lays_length (keeps_fit hok hk)⟩, by simp⟩
    · refine (crash_any T.disk v ks (hJ x (hI x (Chg.refl _ x))) hr hlen (by omega)).mono ?_
      rintro e w1 (⟨_, rfl, D1, ch⟩ | ⟨hk', _⟩)
      · have ch' : Chg (bd :: bk :: bn :: own dv) x w1 := ch.mono (by simp +contextual)
        obtain ⟨m1, m2⟩ := T.mid ch' D1
        exact ⟨rfl, _, m1, m2, hI w1 ch'⟩
      · exact absurd hk hk'
    · refine (ref_crash M.ref v ks (hJ w1 hI) hr hlen (by omega)).mono ?_
      rintro e w2 (⟨_, rfl, kv2, R2, ch, ho⟩ | ⟨hk', _⟩)
      · obtain ⟨m1, m2⟩ := M.both (ch.mono (by simp)) R2 ho rfl
        exact ⟨rfl, kv2, _, m1, m2⟩
      · exact absurd hk hk'
  · refine ⟨261, kept, now, pend, ⟨fun x T hI => ?_, fun w1 dv1 M hI => ?_, rfl⟩, Nat.le_refl _⟩
    · refine (crash_any T.disk v ks (hJ x (hI x (Chg.refl _ x))) hr hlen (by omega)).mono ?_
      rintro e w1 (⟨hk', _⟩ | ⟨_, rfl, b1⟩)
      · exact absurd hk' hk
      · have ch' : Chg (bd :: bk :: bn :: own dv) x w1 := (Chg.of_below (F := []) b1).mono (by simp)
        obtain ⟨m1, m2⟩ := T.mid ch' (T.disk.later b1)
        exact ⟨rfl, _, m1, m2, hI w1 ch'⟩
    · refine (ref_crash M.ref v ks (hJ w1 hI) hr hlen (by omega)).mono ?_
      rintro e w2 (⟨hk', _⟩ | ⟨_, rfl, b1⟩)
      · exact absurd hk' hk
      · obtain ⟨m1, m2⟩ := M.both ((Chg.of_below (F := []) b1).mono (by simp)) (M.ref.later b1) (fun g hg => .inl hg) hn
        exact ⟨rfl, kv, rv, m1, m2⟩

end Go.Proofs.Ytknmebknkncmoaa
