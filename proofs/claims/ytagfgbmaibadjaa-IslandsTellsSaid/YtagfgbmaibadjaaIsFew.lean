/- Contracts of the law's own few, and of both Parts at any rows: their answer is one. -/
import Derived.Test.YtagfgbmaibadjaaIsDocB
import Derived.Test.YtagfgbmaibadjaaIsEx
namespace Go.Proofs.Ytagfgbmaibadjaa
open Go.RowKit Go.Lib

def FwRel (w : World) (G : List (List Int)) (iv : Value) (wr : World) : Prop := ∃ i : Nat, iv = .int .i64 (i : Int) ∧ i ≤ G.length ∧ (∀ l ∈ G.take i, l.length ≤ 80) ∧ wr = w
def FewEnd (w : World) (G : List (List Int)) (e : Ending) (w' : World) : Prop := ∃ b : Bool, e = .returned (.bool b) ∧ (b = true → Few G) ∧ w' = w

theorem few_is {G : List (List Int)} (h : G.length ≤ 80) (h2 : ∀ l ∈ G, l.length ≤ 80) : Few G := ⟨80, h2, by omega⟩

set_option maxHeartbeats 2000000 in
theorem few_any (w : World) (v : Value) (G : List (List Int)) (h : RowsIn w v G) : Calls Try.prog 11 #[v] w (FewEnd w G) := by
  obtain ⟨ga, gc, rfl, hgl⟩ := rows_view h
  obtain ⟨n, hn⟩ : ∃ n, n = G.length := ⟨_, rfl⟩
  have HN := hid hn
  rw [← hn] at h hgl ⊢
  have H := hid h
  clear h hn
  go_enter Try.func11, Try.ntmps11
  go_wp2_with fail
  go_loopw [3] (fun iv y => FwRel w G iv y) (fun iv _ => n - (intOf iv).toNat)
  case atStart => exact ⟨0, rfl, Nat.zero_le _, by simp, rfl⟩
  case round =>
    obtain ⟨i, rfl, hi, hbad, rfl⟩ := hrel
    rw [← HN.out] at hi
    have HB := hid hbad
    clear hbad
    by_cases hgo : i < n
    · by_cases h81 : i < 81
      · obtain ⟨l, hl⟩ : ∃ l, G[i]? = some l := ⟨_, List.getElem?_eq_getElem (HN.out ▸ hgo)⟩
        obtain ⟨b1, o1, lo, lc, rfl, c1, i1⟩ := rows_cell H.out hl
        obtain ⟨ln, hln⟩ : ∃ ln, ln = l.length := ⟨_, rfl⟩
        rw [← hln] at c1 i1
        have hln2 := (ints_len i1).1
        have HLN := hid hln
        have HL := hid hl
        clear hln hl i1
        by_cases h80 : ln ≤ 80
        · have HR := hid (show ∀ l ∈ G.take (i + 1), l.length ≤ 80 from by
            intro l' hl'
            rw [List.take_add_one, HL.out] at hl'
            rcases List.mem_append.1 hl' with h | h
            · exact HB.out l' h
            · have : l' = l := by simpa using h
              rw [this]
              have := HLN.out
              omega)
          go_wp2_with fail
          go_roundw
          case rel => exact ⟨i + 1, by simp, by have := HN.out; omega, HR.out, rfl⟩
          case measure => simp [intOf]; omega
        · go_wp2_with fail
          go_ret
          exact ⟨false, rfl, by simp, rfl⟩
      · have hd : (n : Int) ≤ 80 ↔ False := ⟨fun h => by omega, fun h => h.elim⟩
        go_wp2_with fail
        go_ret
        exact ⟨_, rfl, by intro h; first | cases h | (simp at h; done) | (have := of_decide_eq_true h; omega), rfl⟩
    · have HF := hid (show ∀ l ∈ G, l.length ≤ 80 from by
        have h1 := HB.out
        rw [List.take_of_length_le (by have := HN.out; omega)] at h1
        exact h1)
      go_wp2_with fail
      go_ret
      exact ⟨_, rfl, by intro h; have := of_decide_eq_true h; have := HN.out; exact few_is (by omega) HF.out, rfl⟩

open Classical in
/-- the one answer: islands in order, and the code -/
noncomputable def ansOf (G : List (List Int)) : List (List Int) := if h : ∃ out, rightB G = true ∧ IsParts (natG G) out then castG h.choose else []
def codeOf (G : List (List Int)) : Int := if rightB G = true then 0 else 130
theorem ansOf_is {G : List (List Int)} {out : List (List Nat)} (hr : rightB G = true) (h : IsParts (natG G) out) : castG out = ansOf G := by
  have hx : ∃ out, rightB G = true ∧ IsParts (natG G) out := ⟨out, hr, h⟩
  unfold ansOf
  rw [dif_pos hx]
  have h1 := (right_nat hr).1
  rw [isParts_unique h1 h1 rfl (fun i j _ _ => Iff.rfl) h hx.choose_spec.2]
theorem ansOf_no {G : List (List Int)} (hr : rightB G = false) : ansOf G = [] := by
  unfold ansOf
  rw [dif_neg]
  rintro ⟨_, h, _⟩
  rw [hr] at h
  exact absurd h (by simp)

def AnsEnd (w : World) (G : List (List Int)) (e : Ending) (w' : World) : Prop := ∃ v, e = .returned (.tuple #[v, .int .i64 (codeOf G)]) ∧ RowsIn w' v (ansOf G) ∧ Below w.heap.size w w'

theorem parts_all {w : World} {v : Value} {G : List (List Int)} (h : RowsIn w v G) (hM : Few G) : Calls Try.prog 13 #[v] w (AnsEnd w G) := by
  by_cases hr : rightB G = true
  · refine (parts_ok h hr hM).mono ?_
    rintro e w' ⟨v', out, rfl, a1, a2, a3⟩
    exact ⟨v', by rw [codeOf, if_pos hr], by rw [← ansOf_is hr a1]; exact a2, a3⟩
  · have hr' : rightB G = false := by simpa using hr
    refine (parts_no h hr').mono ?_
    rintro e w' ⟨rfl, a3⟩
    exact ⟨_, by rw [codeOf, if_neg hr], by rw [ansOf_no hr']; exact rows_nil _, a3⟩

theorem doc_ok {w : World} {v : Value} {G : List (List Int)} (h : RowsIn w v G) (hr : rightB G = true) (hM : Few G) : Calls Try.prog 14 #[v] w (PartsOk w G) := by
  obtain ⟨h1, h2, h3⟩ := right_nat hr
  obtain ⟨M, m1, m2⟩ := hM
  have h' := h
  rw [← h2] at h'
  refine (doc_right (M := M) h' (by rw [h2]; exact hr) rfl (by rw [natG_length]; exact h3) h1 (fun k => ?_) (by rw [natG_length]; exact m2)).mono ?_
  · rw [natG_edges, List.length_map]
    cases hl : G[k]? with
    | none => simp
    | some l => exact m1 l (List.mem_of_getElem? hl)
  · rintro e w' ⟨v', out, rfl, a1, a2, a3⟩
    exact ⟨v', out, rfl, a1, a2, a3⟩

set_option maxRecDepth 20000 in
set_option maxHeartbeats 1000000 in
theorem doc_no {w : World} {v : Value} {G : List (List Int)} (h : RowsIn w v G) (hr : rightB G = false) :
    Calls Try.prog 14 #[v] w fun e w' => e = .returned (.tuple #[.slice none 0 0, .int .i64 130]) ∧ Below w.heap.size w w' := by
  have HR := hid (rright_any w v G h)
  rw [hr] at HR
  clear h
  go_enter Try.func14, Try.ntmps14
  go_wp2_with fail
  refine HR.out.mono ?_
  rintro e w1 ⟨rfl, rfl⟩
  go_wp2_with fail
  go_ret2
  exact ⟨rfl, Below.refl _ _⟩

theorem doc_all {w : World} {v : Value} {G : List (List Int)} (h : RowsIn w v G) (hM : Few G) : Calls Try.prog 14 #[v] w (AnsEnd w G) := by
  by_cases hr : rightB G = true
  · refine (doc_ok h hr hM).mono ?_
    rintro e w' ⟨v', out, rfl, a1, a2, a3⟩
    exact ⟨v', by rw [codeOf, if_pos hr], by rw [← ansOf_is hr a1]; exact a2, a3⟩
  · have hr' : rightB G = false := by simpa using hr
    refine (doc_no h hr').mono ?_
    rintro e w' ⟨rfl, a3⟩
    exact ⟨_, by rw [codeOf, if_neg hr], by rw [ansOf_no hr']; exact rows_nil _, a3⟩

end Go.Proofs.Ytagfgbmaibadjaa
