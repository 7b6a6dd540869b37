/- Contracts of pieces and of the iterator that it hands back: whatever the loop's body keeps. -/
import Derived.Test.YtknmebknkncmoaaDkCrashE
import Derived.Test.YtknmebknkncmoaaDkRound
namespace Go.Proofs.Ytknmebknkncmoaa
open Go.RowKit Go.Lib
attribute [local go_sem] Oper.semAt_some

set_option maxHeartbeats 400000 in
theorem pieces_any (at_ : Int) (s : ByteArray) (w : World) :
    Calls Try.prog 32 #[.int .i64 at_, .string s] w fun e w' => e = .returned (.func (.func 34) #[] #[.pointer (some ⟨w.heap.size + 1, 0, none⟩), .pointer (some ⟨w.heap.size, 0, none⟩)]) ∧
      (w.alloc (.cells #[.int .i64 at_] 3)).alloc (.cells #[.string s] 9) = w' := by
  go_enter Try.func32, Try.ntmps32
  go_wp2
  go_ret
  exact ⟨rfl, rfl⟩

/-- what holds at the iterator's head -/
def PcInv (I : List (Nat × Bs) → World → Prop) (ba bs : Nat) (done : List (Nat × Bs)) (at_ : Nat) (r : Bs) (W : World) : Prop :=
  I done W ∧ W.heap[ba]? = some (.cells #[.int .i64 (at_ : Int)] 3 (0, 0)) ∧ W.heap[bs]? = some (.cells #[.string (bstr r)] 9 (0, 0))

def PcEnd (I : List (Nat × Bs) → World → Prop) (all : List (Nat × Bs)) (e : Ending) (W : World) : Prop := (∃ v, e = .returned v) ∧ I all W

theorem bstr_size (r : Bs) : (bstr r).size = r.length := by simp [bstr, ByteArray.size]
theorem bstr_extract (r : Bs) (a b : Nat) : (bstr r).extract a b = bstr ((r.take b).drop a) := by
  apply ByteArray.ext
  rw [ByteArray.data_extract]
  apply Array.ext'
  simp only [bstr, List.extract_toArray, List.extract_eq_take_drop, List.drop_take]

theorem pieces_cell {W' : World} {ba bs : Nat} {x y : Value} {a b : Value} (hba : W'.heap[ba]? = some (.cells #[x] 3 (0, 0))) (hbs : W'.heap[bs]? = some (.cells #[y] 9 (0, 0))) :
    (((W'.setCell ⟨ba, 0, none⟩ a).setCell ⟨bs, 0, none⟩ b).drew).cell? ⟨bs, 0, none⟩ = some b :=
  cell_of (heap_setCell_at (w := W'.setCell ⟨ba, 0, none⟩ a) (heap_setCell_far hbs (heap_ne hba hbs (by decide)).symm a) b) rfl
theorem pieces_less {w w' : World} {bs n : Nat} {sv : ByteArray} (h : w.cell? ⟨bs, 0, none⟩ = some (.string sv)) (h' : w'.cell? ⟨bs, 0, none⟩ = some (.string (sv.extract n sv.size))) (h1 : 1 ≤ n) (h2 : (n : Int) ≤ (sv.size : Int)) :
    (match w'.cell? ⟨bs, 0, none⟩ with | some (.string s) => s.size | _ => 0) < (match w.cell? ⟨bs, 0, none⟩ with | some (.string s) => s.size | _ => 0) := by
  rw [h, h']
  simp only [ByteArray.size_extract]
  omega
theorem pieces_less2 {w w' : World} {bs : Nat} {sv : ByteArray} (h : w.cell? ⟨bs, 0, none⟩ = some (.string sv)) (h' : w'.cell? ⟨bs, 0, none⟩ = some (.string ByteArray.empty)) (h1 : 1 ≤ sv.size) :
    (match w'.cell? ⟨bs, 0, none⟩ with | some (.string s) => s.size | _ => 0) < (match w.cell? ⟨bs, 0, none⟩ with | some (.string s) => s.size | _ => 0) := by
  rw [h, h']
  simp only [ByteArray.size_empty]
  omega
theorem pieces_step {I : List (Nat × Bs) → World → Prop} {ba bs at_ n : Nat} {done all : List (Nat × Bs)} {r : Bs} {W' : World} {sv : ByteArray} (hI : ∀ done W W', Chg [ba, bs] W W' → I done W → I done W')
    (h1 : I (done ++ [(at_, r.take n)]) W') (hba : W'.heap[ba]? = some (.cells #[.int .i64 (at_ : Int)] 3 (0, 0))) (hbs : W'.heap[bs]? = some (.cells #[.string sv] 9 (0, 0)))
    (hsv : sv = bstr r) (hn : n = min (64 - at_ % 64) r.length) (hr : ¬ r = []) (hd : done ++ parts at_ r = all) (hlen : at_ + r.length ≤ 1000000) :
    ∃ (done' : List (Nat × Bs)) (at' : Nat) (r' : Bs), PcInv I ba bs done' at' r' (((W'.setCell ⟨ba, 0, none⟩ (.int .i64 ((at_ : Int) + (n : Int)))).setCell ⟨bs, 0, none⟩ (.string (sv.extract n sv.size))).drew) ∧ done' ++ parts at' r' = all ∧ at' + r'.length ≤ 1000000 := by
  have hne := heap_ne hba hbs (by decide)
  refine ⟨done ++ [(at_, r.take n)], at_ + n, r.drop n, ⟨?_, ?_, ?_⟩, ?_, ?_⟩
  · exact hI _ _ _ ((((Chg.refl [ba, bs] W').setCell (.inl (by simp)) _).setCell (.inl (by simp)) _).drew) h1
  · have := heap_setCell_at (i := 0) hba (.int .i64 ((at_ : Int) + (n : Int)))
    have := heap_setCell_far this hne (.string (sv.extract n sv.size)) (b := bs) (i := 0)
    exact this
  · have := heap_setCell_far hbs hne.symm (.int .i64 ((at_ : Int) + (n : Int))) (b := ba) (i := 0)
    have := heap_setCell_at (i := 0) this (.string (sv.extract n sv.size))
    rw [hsv, bstr_extract, bstr_size, List.take_length] at this
    rw [hsv, bstr_extract, bstr_size, List.take_length]
    exact this
  · rw [List.append_assoc, List.singleton_append, ← parts_cons hr hn]; exact hd
  · have : n ≤ r.length := by omega
    simp; omega

set_option maxHeartbeats 1000000 in
theorem pieces_in (l ba bs : Nat) (I : List (Nat × Bs) → World → Prop) (hI : ∀ done W W', Chg [ba, bs] W W' → I done W → I done W')
    (at0 : Nat) (s0 : Bs) (hb : at0 + s0.length ≤ 1000000)
    (hY : ∀ (done : List (Nat × Bs)) (at_ : Nat) (r : Bs) (n : Nat) (W : World), r ≠ [] → n = min (64 - at_ % 64) r.length → done ++ parts at_ r = parts at0 s0 → PcInv I ba bs done at_ r W →
      YieldAt Fence.wide 0 Try.prog l #[.agg #[.int .i64 (at_ : Int), .string (bstr (r.take n))]] W fun e W' => e = .returned (.bool true) ∧ PcInv I ba bs (done ++ [(at_, r.take n)]) at_ r W')
    (W : World) (h0 : PcInv I ba bs [] at0 s0 W) :
    CallsIn Fence.wide 1 Try.prog 34 #[.func (.yield l) #[] #[], .pointer (some ⟨bs, 0, none⟩), .pointer (some ⟨ba, 0, none⟩)] W (PcEnd I (parts at0 s0)) := by
  refine callsIn_of_wp Try.func34 rfl trivial ?_ rfl
  simp only [Try.ntmps34, List.size_toArray, List.length_cons, List.length_nil, Nat.reduceAdd, Nat.reduceSub, Array.replicate_succ, Array.replicate_zero, List.push_toArray, List.append_toArray, List.nil_append, List.cons_append]
  gi_wp2
  gi_loopw [4] (fun _ wr => ∃ (done : List (Nat × Bs)) (at_ : Nat) (r : Bs), PcInv I ba bs done at_ r wr ∧ done ++ parts at_ r = parts at0 s0 ∧ at_ + r.length ≤ 1000000)
    (fun _ wr => match wr.cell? ⟨bs, 0, none⟩ with | some (.string s) => s.size | _ => 0)
  case atStart => exact ⟨[], at0, s0, h0, rfl, hb⟩
  case round =>
    obtain ⟨done, at_, r, ⟨hI1, hba, hbs⟩, hd, hlen⟩ := hrel
    have ca := cell_of_one hba
    have cs := cell_of_one hbs
    by_cases hr : r = []
    · subst hr
      have e0 : bstr [] = ⟨#[]⟩ := rfl
      rw [e0] at cs
      rw [parts_nil, List.append_nil] at hd
      have HI := hid (show PcEnd I (parts at0 s0) (.returned (.tuple #[])) wr by rw [← hd]; exact ⟨⟨_, rfl⟩, hI1⟩)
      clear hI1 hba hbs hd
      gi_wp2
      go_end0
      exact HI.out
    · obtain ⟨n, hn⟩ : ∃ n, n = min (64 - at_ % 64) r.length := ⟨_, rfl⟩
      have hpos : 0 < r.length := List.length_pos_iff.2 hr
      have hmod : at_ % 64 < 64 := Nat.mod_lt _ (by omega)
      have n1 : 1 ≤ n := by omega
      have n2 : n ≤ r.length := by omega
      obtain ⟨fn, tmps, assign, body, hy, hR⟩ := hY done at_ r n wr.drew hr hn hd ⟨hI done wr _ ((Chg.refl _ wr).drew) hI1, hba, hbs⟩
      obtain ⟨sv, hsv⟩ : ∃ sv, sv = bstr r := ⟨_, rfl⟩
      have hss : sv.size = r.length := by rw [hsv, bstr_size]
      have hex : sv.extract 0 n = bstr (r.take n) := by rw [hsv, bstr_extract]; simp
      have hne : (!sv.toList.isEmpty) = true := by
        rw [hsv]; cases r with | nil => exact absurd rfl hr | cons x r => simp [bstr, ByteArray.toList_eq]
      rw [← hsv] at cs
      rw [← hex] at hy
      have HR := hid hR
      have HN := hid hn
      have HSV := hid hsv
      have HSS := hid hss
      have hs1 : (sv.size : Int) ≤ 1000000 := by omega
      have ha1 : (at_ : Int) ≤ 1000000 := by omega
      have hns : (n : Int) ≤ (sv.size : Int) := by omega
      clear hR hY hsv hex
      by_cases hm : 64 - at_ % 64 ≤ r.length
      · have hA : (64 : Int) - (at_ : Int) % 64 = (n : Int) := by omega
        clear hn hss
        have hmx : Try.prog.follows .mixedOrders = true := by kernel_rfl
        gi_wp2_with fail
        gi_region_with_o (refine HR.out.mono ?_; rintro e W' ⟨rfl, hI', hba', hbs'⟩; rw [← HSV.out] at hbs'; have ca' := cell_of_one hba'; have cs' := cell_of_one hbs'; have fa' := free_of_one hba'; have fs' := free_of_one hbs'; have hne1 := heap_ne hba' hbs' (by decide); have x1 := fun X => cell_setCell_far (i := 0) cs' (b := ba) (Ne.symm hne1) X; have x2 := fun X => cell_setCell_far (i := 0) ca' (b := bs) hne1 X; have HI' := hid hI'; have HBA := hid hba'; have HBS := hid hbs'; clear hI' hba' hbs' hne1)
        all_goals (simp only [Act.put, List.getElem_toArray, List.getElem_cons_succ, List.getElem_cons_zero, List.setIfInBounds_toArray, List.set_cons_zero, List.set_cons_succ])
        all_goals gi_wp2
        all_goals gi_region
        all_goals gi_wp2
        all_goals
          go_roundw
          case rel => exact pieces_step hI HI'.out HBA.out HBS.out HSV.out HN.out hr hd hlen
          case measure => exact pieces_less cs (pieces_cell HBA.out HBS.out) n1 hns
      · obtain rfl : n = sv.size := by omega
        rw [show sv.extract 0 sv.size = sv by simp] at hy
        have hA : (sv.size : Int) < (64 : Int) - (at_ : Int) % 64 := by omega
        clear hn hss
        have hmx : Try.prog.follows .mixedOrders = true := by kernel_rfl
        gi_wp2_with fail
        gi_region_with_o (refine HR.out.mono ?_; rintro e W' ⟨rfl, hI', hba', hbs'⟩; rw [← HSV.out] at hbs'; have ca' := cell_of_one hba'; have cs' := cell_of_one hbs'; have fa' := free_of_one hba'; have fs' := free_of_one hbs'; have hne1 := heap_ne hba' hbs' (by decide); have x1 := fun X => cell_setCell_far (i := 0) cs' (b := ba) (Ne.symm hne1) X; have x2 := fun X => cell_setCell_far (i := 0) ca' (b := bs) hne1 X; have HI' := hid hI'; have HBA := hid hba'; have HBS := hid hbs'; clear hI' hba' hbs' hne1)
        all_goals (simp only [Act.put, List.getElem_toArray, List.getElem_cons_succ, List.getElem_cons_zero, List.setIfInBounds_toArray, List.set_cons_zero, List.set_cons_succ])
        all_goals gi_wp2
        all_goals gi_region
        all_goals gi_wp2
        all_goals
          go_roundw
          case rel =>
            have R := pieces_step hI HI'.out HBA.out HBS.out HSV.out HN.out hr hd hlen
            rw [show sv.extract sv.size sv.size = ByteArray.empty by simp] at R
            exact R
          case measure => exact pieces_less2 cs (pieces_cell HBA.out HBS.out) n1

end Go.Proofs.Ytknmebknkncmoaa
