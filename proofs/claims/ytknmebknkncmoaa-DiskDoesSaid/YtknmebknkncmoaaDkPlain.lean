/- The plain model of the disk: pieces, laying them, crashes; no program in sight. No condition. -/
import Derived.Laws.CopyOwn
namespace Go.Proofs.Ytknmebknkncmoaa

abbrev Bs := List UInt8

/-- which of n things a raw number speaks of -/
def pk (c n : Int) : Int := (if c < 0 then -1 - c else c) % n

/-- a text from a place on, in pieces -/
def partsF : Nat → Nat → Bs → List (Nat × Bs)
  | 0, _, _ => []
  | f + 1, at_, s => if s = [] then [] else
      let n := min (64 - at_ % 64) s.length
      (at_, s.take n) :: partsF f (at_ + n) (s.drop n)
def parts (at_ : Nat) (s : Bs) : List (Nat × Bs) := partsF s.length at_ s

def lay (l : Bs) (p : Nat × Bs) : Bs := splice l p.1 p.2

theorem partsF_more : ∀ (f g at_ : Nat) (s : Bs), s.length ≤ f → s.length ≤ g → partsF f at_ s = partsF g at_ s := by
  intro f
  induction f with
  | zero =>
    intro g at_ s hf hg
    have : s = [] := List.eq_nil_of_length_eq_zero (by omega)
    subst this
    cases g <;> simp [partsF]
  | succ f ih =>
    intro g at_ s hf hg
    cases g with
    | zero =>
      have : s = [] := List.eq_nil_of_length_eq_zero (by omega)
      subst this
      simp [partsF]
    | succ g =>
      simp only [partsF]
      split
      · rfl
      · rename_i hs
        have h0 : 0 < s.length := List.length_pos_iff.2 hs
        have hm : at_ % 64 < 64 := Nat.mod_lt _ (by omega)
        rw [ih g _ _ (by simp; omega) (by simp; omega)]

theorem parts_nil (at_ : Nat) : parts at_ [] = [] := rfl
theorem parts_cons {at_ n : Nat} {s : Bs} (hs : s ≠ []) (hn : n = min (64 - at_ % 64) s.length) : parts at_ s = (at_, s.take n) :: parts (at_ + n) (s.drop n) := by
  have h0 : 0 < s.length := List.length_pos_iff.2 hs
  obtain ⟨f, hf⟩ : ∃ f, s.length = f + 1 := ⟨s.length - 1, by omega⟩
  have hm : at_ % 64 < 64 := Nat.mod_lt _ (by omega)
  unfold parts
  rw [hf]
  simp only [partsF, if_neg hs]
  subst hn
  rw [partsF_more f (s.drop (min (64 - at_ % 64) s.length)).length _ _ (by simp; omega) (by simp)]

/-- the parts of a text, strung together -/
theorem parts_lay (m : Nat) : ∀ (at_ : Nat) (s l : Bs), s.length ≤ m → at_ + s.length ≤ l.length → (parts at_ s).foldl lay l = splice l at_ s := by
  induction m with
  | zero =>
    intro at_ s l hm hl
    have : s = [] := List.eq_nil_of_length_eq_zero (by omega)
    subst this
    simp [parts_nil, splice]
  | succ m ih =>
    intro at_ s l hm hl
    by_cases hs : s = []
    · subst hs; simp [parts_nil, splice]
    · have h0 : 0 < s.length := List.length_pos_iff.2 hs
      have hmod : at_ % 64 < 64 := Nat.mod_lt _ (by omega)
      rw [parts_cons hs rfl, List.foldl_cons]
      generalize hn : min (64 - at_ % 64) s.length = n
      have hn1 : 1 ≤ n := by omega
      have hn2 : n ≤ s.length := by omega
      rw [ih _ _ _ (by simp; omega) (by simp only [lay]; rw [length_splice _ _ _ (by simp; omega)]; simp; omega)]
      simp only [lay, splice]
      apply List.ext_getElem?
      intro i
      simp only [List.getElem?_append, List.getElem?_take, List.getElem?_drop, List.length_take, List.length_drop, List.length_append]
      repeat' split
      all_goals first | rfl | omega | (congr 1; omega) | skip
      all_goals (try omega)

end Go.Proofs.Ytknmebknkncmoaa
