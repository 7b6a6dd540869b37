/- Contract of two; what a call of do leaves. -/
import Derived.Test.YtknmebknkncmoaaDkBoth
import Derived.Test.YtknmebknkncmoaaDkErrors
namespace Go.Proofs.Ytknmebknkncmoaa
open Go.RowKit Go.Lib

section
variable {x w1 : World} {B bd bk bn rb : Nat} {dv kv rv : Value} {kept now : Bs} {pend : List (Nat × Bs)}
theorem Both.later (T : Both x B bd bk bn rb dv kv rv kept now pend) (h : Below x.heap.size x w1) : Both w1 B bd bk bn rb dv kv rv kept now pend :=
  ⟨T.disk.later h, T.ref.later h, T.same, T.apart⟩
theorem Both.base (T : Both x B bd bk bn rb dv kv rv kept now pend) : B ≤ x.heap.size := by
  have := T.disk.b1; have := heap_lt T.disk.hd; omega
end

theorem OpEnd.first {w x : World} {B bd bk bn rb : Nat} {dv kv rv : Value} {kept now kept1 now1 : Bs} {pend pend1 : List (Nat × Bs)} {f1 f2 : FuncId} {a1 a2 : Array Value} {J : World → Prop} {code : Int}
    (O : OpEnd B bd bk bn rb dv kv rv kept now pend f1 f2 a1 a2 J code kept1 now1 pend1) (T : Both x B bd bk bn rb dv kv rv kept now pend) (bx : Below B w x) (jx : ∀ y, Chg (bd :: bk :: bn :: own dv) x y → J y) :
    Calls Try.prog f1 a1 x fun e w1 => e = .returned (.int .i64 code) ∧ ∃ dv1, Mid w1 B bd bk bn rb dv1 kv rv kept kept1 now1 pend pend1 ∧ Below B w w1 ∧ J w1 :=
  (O.one x T jx).mono fun _ _ ⟨h1, dv1, h2, h3, h4⟩ => ⟨h1, dv1, h2, bx.trans h3, h4⟩
theorem low_below {x y : World} {B bd bk bn rb : Nat} {dv kv rv : Value} {kept now : Bs} {pend : List (Nat × Bs)} (T : Both x B bd bk bn rb dv kv rv kept now pend) (h : Chg (bd :: bk :: bn :: own dv) x y) : Below B x y :=
  h.below (disk_own_low T.disk) T.base

def TwoEnd (w : World) (e : Ending) (w' : World) : Prop :=
  ∃ n bd bk bn rb kv, e = .returned (.tuple #[.pointer (some ⟨bd, 0, none⟩), .pointer (some ⟨rb, 0, none⟩)]) ∧ Both w' w.heap.size bd bk bn rb (.slice none 0 0) kv (.slice none 0 0) (zeros n) (zeros n) [] ∧ Below w.heap.size w w'

set_option maxHeartbeats 1000000 in
theorem two_any (c : Int) (w : World) (h1 : -9223372036854775808 ≤ c) (h2 : c ≤ 9223372036854775807) : Calls Try.prog 11 #[.int .i64 c] w (TwoEnd w) := by
  go_enter Try.func11, Try.ntmps11
  go_wp2_with fail
  refine (pick_nat c 5 _ h1 h2 (by omega) (by omega)).mono ?_
  rintro e w' ⟨k, hk, hkk, rfl, rfl⟩
  clear hkk
  obtain ⟨n, hn⟩ : ∃ n : Nat, n = 64 * (1 + k) := ⟨_, rfl⟩
  have hA : (64 : Int) * (1 + (k : Int)) = (n : Int) := by omega
  have n1 : 64 ≤ n := by omega
  have n2 : n ≤ 65536 := by omega
  have n3 : n % 64 = 0 := by omega
  have HN1 := hid (fun x => new_ok n x n1 n2 n3)
  have HN2 := hid (fun x => ref_new_ok n x n1 n2 n3)
  clear hn n3
  go_wp2_with fail
  refine (HN1.out _).mono ?_
  rintro e w1 ⟨bd, bk, bn, rfl, D, c1⟩
  have HD := hid D
  have HC := hid c1
  clear D c1
  go_wp2_with fail
  refine (HN2.out _).mono ?_
  rintro e w2 ⟨rb, kv, rfl, R, c2⟩
  have F : Both w2 w.heap.size bd bk bn rb (.slice none 0 0) kv (.slice none 0 0) (zeros n) (zeros n) [] := by
    have hl := disk_lt HD.out
    have hs := HC.out.size
    refine ⟨HD.out.keep c2 (by simp) (by simp) (by simp) (by simp), ⟨R.hd, ownsRow_lower R.hk hs, ownsRow_lower R.hp hs, R.lo, R.hi, R.ok, Nat.le_trans hs R.b1⟩, rfl, fun g hg => ?_⟩
    have := (R.hk.lt g hg).1
    omega
  have HF := hid (show Both w2 _ bd bk bn rb _ kv _ (zeros n) (zeros n) [] ∧ Below w.heap.size w w2 from ⟨F, (HC.out.trans c2 (by simp)).nil_below⟩)
  clear R c2 F
  go_wp2_with fail
  go_ret2
  exact ⟨n, bd, bk, bn, rb, kv, rfl, HF.out.1, HF.out.2⟩

def DoEnd (w : World) (B bd bk bn rb : Nat) (kept : Bs) (pend : List (Nat × Bs)) (e : Ending) (w' : World) : Prop :=
  e = .returned (.bool true) ∧ ∃ dv kv rv kept1 now1 pend1, Both w' B bd bk bn rb dv kv rv kept1 now1 pend1 ∧ Below B w w' ∧ kept1.length = kept.length ∧ pend1.length ≤ pend.length + 200

end Go.Proofs.Ytknmebknkncmoaa
