/- Contract of the document's Parts: a text in pieces, as a slice of new memory. -/
import Derived.Test.YtknmebknkncmoaaDkReads
namespace Go.Proofs.Ytknmebknkncmoaa
open Go.RowKit Go.Lib

theorem Try.info58 : (Try.prog.info? 58).map (fun i => (i.zero, i.size, i.bytes)) = some (some (.agg #[.int .i64 0, .string ⟨#[]⟩]), 2, 24) := by kernel_rfl

def PartsRel (w : World) (at0 : Nat) (s0 : Bs) (a s o : Value) (wr : World) : Prop :=
  ∃ (done : List (Nat × Bs)) (b : Nat) (r : Bs), a = .int .i64 (b : Int) ∧ s = .string (bstr r) ∧ done ++ parts b r = parts at0 s0 ∧ b + r.length = at0 + s0.length ∧ wr.ownsRow w.heap.size 58 2 o done.length (done.flatMap pieceCells) ∧ Below w.heap.size w wr
def strLen : Value → Nat
  | .string b => b.size
  | _ => 0
def PartsPost (w : World) (at0 : Nat) (s0 : Bs) (e : Ending) (w' : World) : Prop :=
  ∃ v, e = .returned v ∧ w'.ownsRow w.heap.size 58 2 v (parts at0 s0).length ((parts at0 s0).flatMap pieceCells) ∧ Below w.heap.size w w'

theorem parts_step {w wr w1 : World} {at0 b n : Nat} {s0 r : Bs} {done : List (Nat × Bs)} {o v' : Value} (hr : r ≠ []) (hn : n = min (64 - b % 64) r.length) (hd : done ++ parts b r = parts at0 s0) (hl : b + r.length = at0 + s0.length)
    (hown : wr.ownsRow w.heap.size 58 2 o done.length (done.flatMap pieceCells)) (hb : Below w.heap.size w wr)
    (hown' : w1.ownsRow w.heap.size 58 2 v' (done.length + 1) (done.flatMap pieceCells ++ [.int .i64 (b : Int), .string (bstr (r.take n))])) (hgrow : (wr.alloc (.cells #[.int .i64 (b : Int), .string (bstr (r.take n))] 58)).grownBy w1 o.ownBlock) :
    PartsRel w at0 s0 (.int .i64 ((b + n : Nat) : Int)) (.string (bstr (r.drop n))) v' w1 := by
  have ho : ∀ k, o.ownBlock = some k → w.heap.size ≤ k := fun k hk => (hown.lt k hk).1
  have hc : Chg o.ownBlock.toList wr w1 := ((Chg.refl _ wr).alloc _).grown hgrow (fun k hk => .inl (by simp [hk]))
  refine ⟨done ++ [(b, r.take n)], b + n, r.drop n, rfl, rfl, ?_, by simp; omega, ?_, hb.trans (hc.below (fun x hx => ho x (by simpa using hx)) hb.size)⟩
  · rw [parts_cons hr hn] at hd
    simpa using hd
  · have e : pieceCells (b, r.take n) = [.int .i64 (b : Int), .string (bstr (r.take n))] := rfl
    simpa [e] using hown'

theorem parts_step2 {w wr w1 : World} {at0 b n : Nat} {s0 r : Bs} {tk dp : ByteArray} {done : List (Nat × Bs)} {o v' : Value} (htk : tk = bstr (r.take n)) (hdp : dp = bstr (r.drop n)) (hr : ¬ r = []) (hn : n = min (64 - b % 64) r.length) (hd : done ++ parts b r = parts at0 s0) (hl : b + r.length = at0 + s0.length)
    (hown : wr.ownsRow w.heap.size 58 2 o done.length (done.flatMap pieceCells)) (hb : Below w.heap.size w wr)
    (hown' : w1.ownsRow w.heap.size 58 2 v' (done.length + 1) (done.flatMap pieceCells ++ [.int .i64 (b : Int), .string tk])) (hgrow : (wr.alloc (.cells #[.int .i64 (b : Int), .string tk] 58)).grownBy w1 o.ownBlock) :
    PartsRel w at0 s0 (.int .i64 ((b + n : Nat) : Int)) (.string dp) v' w1 := by
  subst htk hdp
  exact parts_step hr hn hd hl hown hb hown' hgrow

set_option maxHeartbeats 2000000 in
theorem parts_any (w : World) (at0 : Nat) (s0 : Bs) (hlen : at0 + s0.length ≤ 1000000) : Calls Try.prog 26 #[.int .i64 (at0 : Int), .string (bstr s0)] w (PartsPost w at0 s0) := by
  obtain ⟨i0, hi, hz0, hz1, hz2⟩ := info_parts Try.info58
  go_enter Try.func26, Try.ntmps26
  go_wp2_with fail
  go_loopw [0, 1, 5] (fun a s o wr => PartsRel w at0 s0 a s o wr) (fun _ s _ _ => strLen s)
  case atStart => exact ⟨[], at0, s0, rfl, rfl, rfl, rfl, World.ownsRow_nil _ _ _ _, Below.refl _ _⟩
  case round =>
    obtain ⟨done, b, r, rfl, rfl, hd, hl, hown, hb⟩ := hrel
    have ha1 : (b : Int) ≤ 1000000 := by omega
    have hsz := bstr_size r
    by_cases hr : r = []
    · subst hr
      have HOW := hid hown
      have HD := hid hd
      clear hown hd hl
      go_wp2_with fail
      go_ret
      refine ⟨_, rfl, ?_, hb⟩
      have e : done = parts at0 s0 := by have := HD.out; rw [parts_nil, List.append_nil] at this; exact this
      rw [← e]
      exact HOW.out
    · obtain ⟨n, hn⟩ : ∃ n, n = min (64 - b % 64) r.length := ⟨_, rfl⟩
      have hpos : 0 < r.length := List.length_pos_iff.2 hr
      have hmod : b % 64 < 64 := Nat.mod_lt _ (by omega)
      have n1 : 1 ≤ n := by omega
      have n2 : n ≤ r.length := by omega
      obtain ⟨sv, hsv⟩ : ∃ sv, sv = bstr r := ⟨_, rfl⟩
      have hss : sv.size = r.length := by rw [hsv, bstr_size]
      have hex : sv.extract 0 n = bstr (r.take n) := by rw [hsv, bstr_extract]; simp
      have hex2 : sv.extract n sv.size = bstr (r.drop n) := by rw [hsv, bstr_extract, bstr_size]; simp
      obtain ⟨tk, htk⟩ : ∃ tk, tk = bstr (r.take n) := ⟨_, rfl⟩
      obtain ⟨dp, hdp⟩ : ∃ dp, dp = bstr (r.drop n) := ⟨_, rfl⟩
      have hdl : dp.size = r.length - n := by rw [hdp, bstr_size]; simp
      rw [← hsv]
      rw [← htk] at hex
      rw [← hdp] at hex2
      have HO2 := hid (hown.alloc (.cells #[.int .i64 (b : Int), .string tk] 58))
      have HOW := hid hown
      have HD := hid hd
      have HR := hid hr
      have HL := hid hl
      have HTK := hid htk
      have HDP := hid hdp
      have hdn : done.length ≤ 1000000 := by
        have h1 := parts_count s0.length at0 s0 (Nat.le_refl _)
        rw [← hd] at h1
        simp at h1
        omega
      have HB := hid hb
      have hs1 : (sv.size : Int) ≤ 1000000 := by omega
      have hns : (n : Int) ≤ (sv.size : Int) := by omega
      have HN := hid hn
      have HSS := hid hss
      have HDL := hid hdl
      clear hd hown hsv htk hdp hsz hr hb hdl
      by_cases hm : 64 - b % 64 ≤ r.length
      · have hA : (64 : Int) - (b : Int) % 64 = (n : Int) := by omega
        have hA2 : ((sv.size : Int) < (n : Int)) = False := by rw [eq_iff_iff, iff_false]; omega
        clear hn hss hl
        go_wp2_with (at_builtin; refine wpList_append_own _ rfl _ _ 36 rfl w.heap.size 58 i0 (.agg #[.int .i64 0, .string ⟨#[]⟩]) 2 24 Try.underlying36 hi hz0 hz1 hz2 rfl (by decide) _ _ _ rfl HO2.out ⟨wr.heap.size, 0, none⟩ 1 1 [.int .i64 (b : Int), .string tk] rfl rfl (cell_two_new2 rfl _ _ _) (by intro u hu; simp at hu; rcases hu with rfl | rfl <;> rfl) (by unfold maxLen; omega) (by omega) (by have := HB.out.size; simp; omega) ?_; intro v' wx hown' hgrow _)
        have R := hid (parts_step2 HTK.out HDP.out HR.out HN.out HD.out HL.out HOW.out HB.out hown' hgrow)
        clear hown' hgrow
        go_wp2_with fail
        go_roundw
        case rel =>
          have e : ((b + n : Nat) : Int) = (b : Int) + (n : Int) := by omega
          rw [← e]
          exact R.out
        case measure =>
          show dp.size < sv.size
          have := HDL.out
          have := HSS.out
          omega
      · obtain rfl : n = sv.size := by omega
        have hA : (sv.size : Int) < (64 : Int) - (b : Int) % 64 := by omega
        clear hn hss hl
        go_wp2_with (at_builtin; refine wpList_append_own _ rfl _ _ 36 rfl w.heap.size 58 i0 (.agg #[.int .i64 0, .string ⟨#[]⟩]) 2 24 Try.underlying36 hi hz0 hz1 hz2 rfl (by decide) _ _ _ rfl HO2.out ⟨wr.heap.size, 0, none⟩ 1 1 [.int .i64 (b : Int), .string tk] rfl rfl (cell_two_new2 rfl _ _ _) (by intro u hu; simp at hu; rcases hu with rfl | rfl <;> rfl) (by unfold maxLen; omega) (by omega) (by have := HB.out.size; simp; omega) ?_; intro v' wx hown' hgrow _)
        have R := hid (parts_step2 HTK.out HDP.out HR.out HN.out HD.out HL.out HOW.out HB.out hown' hgrow)
        clear hown' hgrow
        go_wp2_with fail
        go_roundw
        case rel =>
          have e : ((b + sv.size : Nat) : Int) = (b : Int) + (sv.size : Int) := by omega
          have hd0 : dp = ByteArray.empty := by rw [HDP.out, List.drop_of_length_le (by have := HSS.out; omega)]; rfl
          have R' := R.out
          rw [hd0] at R'
          rw [← e]
          exact R'
        case measure =>
          show ByteArray.empty.size < sv.size
          have : ByteArray.empty.size = 0 := rfl
          omega

end Go.Proofs.Ytknmebknkncmoaa
