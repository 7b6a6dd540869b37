/- Plain: what IslandsApart asks of the islands. -/
import Derived.Test.YtagfgbmaibadjaaIsLeadW
namespace Go.Proofs.Ytagfgbmaibadjaa
open Go.RowKit Go.Lib

theorem leads_ne {g : Gr} {a b : Nat} (h : Leads g a b) (hne : a ≠ b) : LeadsP g a b := by
  cases h with
  | refl => exact (hne rfl).elim
  | step e h => exact ⟨_, e, h⟩
theorem LeadsP.leads {g : Gr} {a b : Nat} (h : LeadsP g a b) : Leads g a b := by
  obtain ⟨j, h1, h2⟩ := h
  exact .step h1 h2
section
variable {g : Gr} {out : List (List Nat)}
theorem IsParts.pos_same (P : IsParts g out) {i k : Nat} (hi : i < g.length) (hk : k < g.length) (hne : i ≠ k) : posOf out i = posOf out k ↔ LeadsP g i k ∧ LeadsP g k i := by
  obtain ⟨a, l, a1, a2, a3⟩ := P.pos_has hi
  obtain ⟨b, m, b1, b2, b3⟩ := P.pos_has hk
  have h := P.same a1 b1 a2 b2
  rw [a3, b3]
  constructor
  · intro e
    have s := h.1 (by omega)
    exact ⟨leads_ne s.1 hne, leads_ne s.2 (Ne.symm hne)⟩
  · rintro ⟨h1, h2⟩
    have := h.2 ⟨h1.leads, h2.leads⟩
    omega
theorem IsParts.circle (P : IsParts g out) (R : RightG g) (hl : g.length ≤ 2000) {k q : Nat} {t : List Nat} (hk : out[k]? = some (q :: t)) : loopB (castG g) ((q :: t).map fun (x : Nat) => (x : Int)) = reachB g q q := by
  obtain ⟨q', t', e, q1, _, q3, q4, q5, q6⟩ := P.first hk
  injection e with e1 e2
  subst e1 e2
  rw [Bool.eq_iff_iff, reachB_iff]
  rcases t with _ | ⟨r, t⟩
  · have e1 : loopB (castG g) ([q].map fun (x : Nat) => (x : Int)) = decide ((q : Int) ∈ (edges g q).map fun (x : Nat) => (x : Int)) := by
      have h1 : decide ((0 : Int) ≤ (q : Int)) = true := by simp
      have h2 : decide ((q : Int) < ((castG g).length : Int)) = true := by rw [castG_length]; simp; exact q1
      simp only [List.map_cons, List.map_nil, loopB, right_cast R hl, h1, h2, Bool.true_and, Int.toNat_natCast, castG_get q1, Option.getD_some]
    rw [e1, decide_eq_true_iff]
    constructor
    · intro h
      obtain ⟨y, hy, e⟩ := List.mem_map.1 h
      have : y = q := by omega
      subst this
      exact ⟨y, hy, .refl _⟩
    · rintro ⟨j, h1, h2⟩
      have hj : j ∈ [q] := (q5 j).2 ⟨R q j h1, .one h1, h2⟩
      simp only [List.mem_singleton] at hj
      subst hj
      exact List.mem_map.2 ⟨j, h1, rfl⟩
  · have e1 : loopB (castG g) ((q :: r :: t).map fun (x : Nat) => (x : Int)) = true := right_cast R hl
    rw [e1]
    simp only [true_iff]
    have hr := (q5 r).1 (by simp)
    have hqr : q ≠ r := by
      have := (List.pairwise_cons.1 q6).1 r (by simp)
      omega
    obtain ⟨j, h1, h2⟩ := leads_ne hr.2.1 hqr
    exact ⟨j, h1, h2.trans hr.2.2⟩

theorem sub_len : ∀ (a b : List Nat), a.Nodup → (∀ x ∈ a, x ∈ b) → a.length ≤ b.length
  | [], _, _, _ => Nat.zero_le _
  | x :: t, b, hd, h => by
    obtain ⟨h1, h2⟩ := List.nodup_cons.1 hd
    have hx := h x (by simp)
    have ih := sub_len t (b.erase x) h2 (fun y hy => (List.mem_erase_of_ne (fun e => by subst e; exact h1 hy)).2 (h y (by simp [hy])))
    rw [List.length_erase_of_mem hx] at ih
    have := List.length_pos_of_mem hx
    simp only [List.length_cons]
    omega
def sumTo (out : List (List Nat)) (i : Nat) : Nat := ((out.take i).map List.length).sum
theorem sumTo_step {i : Nat} {l : List Nat} (h : out[i]? = some l) : sumTo out (i + 1) = sumTo out i + l.length := by
  unfold sumTo
  rw [List.take_add_one, h]
  simp
theorem sumTo_le : ∀ (out : List (List Nat)) (i : Nat), sumTo out i ≤ sumTo out out.length
  | [], i => by simp [sumTo]
  | l :: t, 0 => by simp [sumTo]
  | l :: t, i + 1 => by
    have := sumTo_le t i
    unfold sumTo at this ⊢
    simp only [List.take_succ_cons, List.map_cons, List.sum_cons, List.length_cons]
    omega
theorem IsParts.sum (P : IsParts g out) : sumTo out out.length = g.length := by
  have e : sumTo out out.length = out.flatten.length := by
    unfold sumTo
    rw [List.take_length, List.length_flatten]
  rw [e]
  have h5 : out.flatten.Nodup := by
    rw [List.Nodup, List.pairwise_flatten]
    refine ⟨fun l hl => ?_, ?_⟩
    · obtain ⟨k, hk⟩ := List.getElem?_of_mem hl
      obtain ⟨q, t, _, _, _, _, _, _, hp⟩ := P.first hk
      exact hp.imp (fun h => by omega)
    · rw [List.pairwise_iff_getElem]
      intro i j hi hj hij x hx y hy e
      subst e
      have := P.disj (List.getElem?_eq_getElem hi) (List.getElem?_eq_getElem hj) hx hy
      omega
  have h6 := pigeon0 g.length out.flatten h5 (fun x hx => by
    obtain ⟨l, hl, h⟩ := List.mem_flatten.1 hx
    obtain ⟨k, hk⟩ := List.getElem?_of_mem hl
    exact P.lt hk h)
  have h7 := sub_len (List.range g.length) out.flatten List.nodup_range (fun x hx => P.full x (by simpa using hx))
  rw [List.length_range] at h7
  omega
theorem IsParts.asc (P : IsParts g out) {i k x y : Nat} {l : List Nat} (hi : out[i]? = some l) (hx : l[k]? = some x) (hy : l[k + 1]? = some y) : x < y := by
  obtain ⟨q, t, _, _, _, _, _, _, hp⟩ := P.first hi
  obtain ⟨h1, e1⟩ := List.getElem?_eq_some_iff.1 hx
  obtain ⟨h2, e2⟩ := List.getElem?_eq_some_iff.1 hy
  have := List.pairwise_iff_getElem.1 hp k (k + 1) h1 h2 (by omega)
  omega
end
end Go.Proofs.Ytagfgbmaibadjaa
