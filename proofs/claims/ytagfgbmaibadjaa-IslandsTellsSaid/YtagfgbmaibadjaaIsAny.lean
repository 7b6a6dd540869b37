/- islands.Parts on a graph of ints: what it answers; graphs laid into memory. -/
import Derived.Test.YtagfgbmaibadjaaIsParts
import Derived.Test.YtagfgbmaibadjaaIsLoop
import Derived.Test.YtagfgbmaibadjaaIsSame
namespace Go.Proofs.Ytagfgbmaibadjaa
open Go.RowKit Go.Lib

def natG (G : List (List Int)) : Gr := G.map fun l => l.map Int.toNat
theorem natG_length (G : List (List Int)) : (natG G).length = G.length := by simp [natG]
theorem natG_edges (G : List (List Int)) (i : Nat) : edges (natG G) i = ((G[i]?).getD []).map Int.toNat := by
  unfold edges natG
  rw [List.getElem?_map]
  cases G[i]? <;> rfl
theorem natG_cast (g : Gr) : natG (castG g) = g := by
  unfold natG castG
  rw [List.map_map]
  have : ((fun l => List.map Int.toNat l) ∘ fun l => List.map (fun (x : Nat) => (x : Int)) l) = (id : List Nat → List Nat) := by
    funext l
    simp only [Function.comp_apply, List.map_map, id]
    have : (Int.toNat ∘ fun (x : Nat) => (x : Int)) = id := by funext x; simp
    rw [this, List.map_id]
  rw [this, List.map_id]

theorem right_iff (G : List (List Int)) : rightB G = true ↔ G.length ≤ 2000 ∧ ∀ l ∈ G, ∀ x ∈ l, 0 ≤ x ∧ x < (G.length : Int) := by
  unfold rightB badGraph
  simp only [Bool.and_eq_true, decide_eq_true_eq, Bool.not_eq_true', List.any_eq_false]
  refine and_congr_right fun _ => forall_congr' fun l => forall_congr' fun _ => ?_
  unfold badRow
  rw [List.any_eq_true]
  constructor
  · intro h x hx
    have h1 : ¬ badX G.length x = true := fun hb => h ⟨x, hx, hb⟩
    unfold badX at h1
    simp only [Bool.or_eq_true, decide_eq_true_eq, not_or] at h1
    omega
  · rintro h ⟨x, hx, hb⟩
    have := h x hx
    unfold badX at hb
    simp only [Bool.or_eq_true, decide_eq_true_eq] at hb
    omega
theorem right_nat {G : List (List Int)} (h : rightB G = true) : RightG (natG G) ∧ castG (natG G) = G ∧ G.length ≤ 2000 := by
  obtain ⟨h1, h2⟩ := (right_iff G).1 h
  refine ⟨fun i j hj => ?_, ?_, h1⟩
  · rw [natG_length]
    unfold edge at hj
    rw [natG_edges] at hj
    obtain ⟨x, hx, rfl⟩ := List.mem_map.1 hj
    cases hl : G[i]? with
    | none => rw [hl] at hx; simp at hx
    | some l =>
      rw [hl] at hx
      have := h2 l (List.mem_of_getElem? hl) x hx
      omega
  · unfold castG natG
    rw [List.map_map]
    conv => rhs; rw [← List.map_id G]
    refine List.map_congr_left (fun l hl => ?_)
    simp only [Function.comp_apply, List.map_map, id]
    conv => rhs; rw [← List.map_id l]
    refine List.map_congr_left (fun x hx => ?_)
    have := h2 l hl x hx
    simp only [Function.comp_apply, id]
    omega

/-- few edges: so many that no row outgrows its room -/
def Few (G : List (List Int)) : Prop := ∃ M, (∀ l ∈ G, l.length ≤ M) ∧ (G.length + 1) * M ≤ 1000000

def PartsOk (w : World) (G : List (List Int)) (e : Ending) (w' : World) : Prop := ∃ v out, e = .returned (.tuple #[v, .int .i64 0]) ∧ IsParts (natG G) out ∧ RowsIn w' v (castG out) ∧ Below w.heap.size w w'
theorem parts_ok {w : World} {v : Value} {G : List (List Int)} (h : RowsIn w v G) (hr : rightB G = true) (hM : Few G) : Calls Try.prog 13 #[v] w (PartsOk w G) := by
  obtain ⟨h1, h2, h3⟩ := right_nat hr
  obtain ⟨M, m1, m2⟩ := hM
  have h' := h
  rw [← h2] at h'
  refine (parts_right w v (natG G) h' (M := M) h1 (by rw [natG_length]; exact h3) (fun k => ?_) (by rw [natG_length]; exact m2)).mono ?_
  · rw [natG_edges, List.length_map]
    cases hl : G[k]? with
    | none => simp
    | some l => exact m1 l (List.mem_of_getElem? hl)
  · rintro e w' ⟨v', out, rfl, a1, a2, a3⟩
    exact ⟨v', out, rfl, a1, a2, a3⟩
theorem parts_known {w : World} {v : Value} {G : List (List Int)} {out0 : List (List Nat)} (h : RowsIn w v G) (hr : rightB G = true) (hM : Few G) (h0 : IsParts (natG G) out0) :
    Calls Try.prog 13 #[v] w fun e w' => ∃ v', e = .returned (.tuple #[v', .int .i64 0]) ∧ RowsIn w' v' (castG out0) ∧ Below w.heap.size w w' := by
  refine (parts_ok h hr hM).mono ?_
  rintro e w' ⟨v', out, rfl, a1, a2, a3⟩
  have h1 := (right_nat hr).1
  have := isParts_unique h1 h1 rfl (fun i j _ _ => Iff.rfl) a1 h0
  subst this
  exact ⟨v', rfl, a2, a3⟩
theorem parts_no {w : World} {v : Value} {G : List (List Int)} (h : RowsIn w v G) (hr : rightB G = false) :
    Calls Try.prog 13 #[v] w fun e w' => e = .returned (.tuple #[.slice none 0 0, .int .i64 130]) ∧ Below w.heap.size w w' := parts_bad w v G h hr

theorem ints_lit {y : World} {b : Nat} {l : List Int} {xs : List Value} {n : Nat} (h : y.heap[b]? = some (.cells xs.toArray 3 (0, 0))) (hx : xs = l.map fun x => Value.int .i64 x) (hn : n = l.length) (hs : l.all (fun x => decide (-1000000 ≤ x) && decide (x ≤ 1000000)) = true) (hl : l.length ≤ 1000) : IntsIn y (.slice (some ⟨b, 0, none⟩) n n) l := by
  subst hx hn
  refine ⟨_, l.length, b, 0, rfl, by omega, fun j x hj => ⟨rfl, ?_, ?_⟩⟩
  · rw [Nat.zero_add]
    exact cell_of h (by simp [hj])
  · have := List.all_eq_true.1 hs x (List.mem_of_getElem? hj)
    simp only [Bool.and_eq_true, decide_eq_true_eq] at this
    omega
theorem ints_nil (y : World) : IntsIn y (.slice none 0 0) [] := ⟨none, 0, 0, 0, rfl, by simp, by simp⟩
theorem rows_nil (y : World) : RowsIn y (.slice none 0 0) [] := ⟨none, 0, 0, 0, rfl, by simp, by simp⟩
theorem rows_lit {y : World} {b n : Nat} {vs : List Value} {G : List (List Int)} (h : y.heap[b]? = some (.cells vs.toArray 24 (0, 0))) (hn : n = G.length) (hl : G.length ≤ 1000) (hv : ∀ (i : Nat) (l : List Int), G[i]? = some l → ∃ lv, vs[i]? = some lv ∧ IntsIn y lv l) : RowsIn y (.slice (some ⟨b, 0, none⟩) n n) G := by
  subst hn
  refine ⟨_, G.length, b, 0, rfl, by omega, fun i l hi => ⟨rfl, ?_⟩⟩
  obtain ⟨lv, h1, h2⟩ := hv i l hi
  exact ⟨lv, by rw [Nat.zero_add]; exact cell_of h (by simp [h1]), h2⟩
theorem rows1 {y : World} {b : Nat} {v0 : Value} {l0 : List Int} (h : y.heap[b]? = some (.cells #[v0] 24 (0, 0))) (h0 : IntsIn y v0 l0) : RowsIn y (.slice (some ⟨b, 0, none⟩) 1 1) [l0] :=
  rows_lit (vs := [v0]) h rfl (by simp) (fun i l hi => by
    rcases i with _ | i
    · simp at hi; subst hi; exact ⟨_, rfl, h0⟩
    · simp at hi)
theorem rows2 {y : World} {b : Nat} {v0 v1 : Value} {l0 l1 : List Int} (h : y.heap[b]? = some (.cells #[v0, v1] 24 (0, 0))) (h0 : IntsIn y v0 l0) (h1 : IntsIn y v1 l1) : RowsIn y (.slice (some ⟨b, 0, none⟩) 2 2) [l0, l1] :=
  rows_lit (vs := [v0, v1]) h rfl (by simp) (fun i l hi => by
    rcases i with _ | _ | i
    · simp at hi; subst hi; exact ⟨_, rfl, h0⟩
    · simp at hi; subst hi; exact ⟨_, rfl, h1⟩
    · simp at hi)
theorem rows3 {y : World} {b : Nat} {v0 v1 v2 : Value} {l0 l1 l2 : List Int} (h : y.heap[b]? = some (.cells #[v0, v1, v2] 24 (0, 0))) (h0 : IntsIn y v0 l0) (h1 : IntsIn y v1 l1) (h2 : IntsIn y v2 l2) : RowsIn y (.slice (some ⟨b, 0, none⟩) 3 3) [l0, l1, l2] :=
  rows_lit (vs := [v0, v1, v2]) h rfl (by simp) (fun i l hi => by
    rcases i with _ | _ | _ | i
    · simp at hi; subst hi; exact ⟨_, rfl, h0⟩
    · simp at hi; subst hi; exact ⟨_, rfl, h1⟩
    · simp at hi; subst hi; exact ⟨_, rfl, h2⟩
    · simp at hi)
theorem ints1 {y : World} {b : Nat} {x : Int} (h : y.heap[b]? = some (.cells #[.int .i64 x] 3 (0, 0))) (h1 : -1000000 ≤ x ∧ x ≤ 1000000) : IntsIn y (.slice (some ⟨b, 0, none⟩) 1 1) [x] :=
  ints_lit (xs := [.int .i64 x]) h rfl rfl (by simp [h1.1, h1.2]) (by simp)
theorem ints2 {y : World} {b : Nat} {x x2 : Int} (h : y.heap[b]? = some (.cells #[.int .i64 x, .int .i64 x2] 3 (0, 0))) (h1 : -1000000 ≤ x ∧ x ≤ 1000000) (h2 : -1000000 ≤ x2 ∧ x2 ≤ 1000000) : IntsIn y (.slice (some ⟨b, 0, none⟩) 2 2) [x, x2] :=
  ints_lit (xs := [.int .i64 x, .int .i64 x2]) h rfl rfl (by simp [h1.1, h1.2, h2.1, h2.2]) (by simp)

end Go.Proofs.Ytagfgbmaibadjaa
