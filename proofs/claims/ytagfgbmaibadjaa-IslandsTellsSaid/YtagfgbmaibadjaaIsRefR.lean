/- Contracts of the document's own Right and IsLoop. -/
import Derived.Test.YtagfgbmaibadjaaIsLoop
import Derived.Test.YtagfgbmaibadjaaIsSame
namespace Go.Proofs.Ytagfgbmaibadjaa
open Go.RowKit Go.Lib

def RrRel (w : World) (G : List (List Int)) (iv : Value) (wr : World) : Prop := ∃ i : Nat, iv = .int .i64 (i : Int) ∧ i ≤ G.length ∧ badGraph G.length (G.take i) = false ∧ wr = w
def RrIn (w : World) (G : List (List Int)) (l : List Int) (kv : Value) (wr : World) : Prop := ∃ k : Nat, kv = .int .i64 (k : Int) ∧ k ≤ l.length ∧ badRow G.length (l.take k) = false ∧ wr = w

set_option maxHeartbeats 2000000 in
theorem rright_any (w : World) (v : Value) (G : List (List Int)) (h : RowsIn w v G) : Calls Try.prog 28 #[v] w fun e w' => e = .returned (.bool (rightB G)) ∧ w' = w := by
  obtain ⟨ga, gc, rfl, hgl⟩ := rows_view h
  obtain ⟨n, hn⟩ : ∃ n, n = G.length := ⟨_, rfl⟩
  have HN := hid hn
  rw [← hn] at h hgl ⊢
  have H := hid h
  clear h hn
  by_cases hg : n ≤ 2000
  · go_enter Try.func28, Try.ntmps28
    go_wp2_with fail
    go_loopw [3] (fun iv y => RrRel w G iv y) (fun iv _ => n - (intOf iv).toNat)
    case atStart => exact ⟨0, rfl, Nat.zero_le _, rfl, rfl⟩
    case round =>
      obtain ⟨i, rfl, hi, hbad, rfl⟩ := hrel
      rw [← HN.out] at hi
      have HB := hid hbad
      clear hbad
      by_cases hgo : i < n
      · obtain ⟨l, hl⟩ : ∃ l, G[i]? = some l := ⟨_, List.getElem?_eq_getElem (HN.out ▸ hgo)⟩
        obtain ⟨b1, o1, lo, lc, rfl, c1, i1⟩ := rows_cell H.out hl
        obtain ⟨ln, hln⟩ : ∃ ln, ln = l.length := ⟨_, rfl⟩
        rw [← hln] at c1 i1
        have hln2 := (ints_len i1).1
        have HLN := hid hln
        have HL := hid hl
        have HI := hid i1
        clear hln hl i1
        go_wp2_with fail
        go_loopw [4] (fun kv y => RrIn wr G l kv y) (fun kv _ => ln - (intOf kv).toNat)
        case atStart => exact ⟨0, rfl, Nat.zero_le _, rfl, rfl⟩
        case round =>
          obtain ⟨k, rfl, hk, hbk, rfl⟩ := hrel
          rw [← HLN.out] at hk
          have HBK := hid hbk
          clear hbk
          by_cases hkn : k < ln
          · obtain ⟨x, hx⟩ : ∃ x, l[k]? = some x := ⟨_, List.getElem?_eq_getElem (HLN.out ▸ hkn)⟩
            obtain ⟨b2, o2, rfl, c2, x1, x2⟩ := ints_cell HI.out hx
            have HX := hid hx
            clear hx
            by_cases h0 : x < 0
            · have HR := hid (show rightB G = false from by
                have : badX G.length x = true := by simp [badX, h0]
                have h2 : badRow G.length l = true := any_here HX.out this
                have h3 : badGraph G.length G = true := any_here HL.out h2
                simp [rightB, h3])
              go_wp2_with fail
              go_ret
              exact ⟨ret_bool HR.out.symm, rfl⟩
            · by_cases h1 : (n : Int) ≤ x
              · have HR := hid (show rightB G = false from by
                  have : badX G.length x = true := by have := HN.out; simp [badX]; omega
                  have h2 : badRow G.length l = true := any_here HX.out this
                  have h3 : badGraph G.length G = true := any_here HL.out h2
                  simp [rightB, h3])
                go_wp2_with fail
                go_ret
                exact ⟨ret_bool HR.out.symm, rfl⟩
              · have HR := hid (show badRow G.length (l.take (k + 1)) = false from any_take HX.out HBK.out (by have := HN.out; simp [badX]; omega))
                go_wp2_with fail
                go_roundw
                case rel => exact ⟨k + 1, by simp, by have := HLN.out; omega, HR.out, rfl⟩
                case measure => simp [intOf]; omega
          · have HR := hid (show badGraph G.length (G.take (i + 1)) = false from any_take HL.out HB.out (by
              have h1 := HBK.out
              rw [List.take_of_length_le (by have := HLN.out; omega)] at h1
              exact h1))
            go_wp2_with fail
            go_roundw
            case rel => exact ⟨i + 1, by simp, by have := HN.out; omega, HR.out, rfl⟩
            case measure => simp [intOf]; omega
      · have HR := hid (show rightB G = true from by
          have h1 := HB.out
          rw [List.take_of_length_le (by have := HN.out; omega)] at h1
          have := HN.out
          simp [rightB, h1]
          omega)
        go_wp2_with fail
        go_ret
        exact ⟨ret_bool HR.out.symm, rfl⟩
  · have HR := hid (show rightB G = false from by
      have := HN.out
      simp [rightB]
      intro h
      omega)
    go_enter Try.func28, Try.ntmps28
    go_wp2_with fail
    go_ret
    exact ⟨ret_bool HR.out.symm, rfl⟩

def RlRel (w : World) (l : List Int) (q : Int) (kv : Value) (wr : World) : Prop := ∃ k : Nat, kv = .int .i64 (k : Int) ∧ k ≤ l.length ∧ q ∉ l.take k ∧ Below w.heap.size w wr

set_option maxHeartbeats 2000000 in
theorem rloop_any (w : World) (gv pv : Value) (G : List (List Int)) (part : List Int) (h : RowsIn w gv G) (hp : IntsIn w pv part) : Calls Try.prog 16 #[gv, pv] w (LoopEnd w (loopB G part)) := by
  have HR := hid (rright_any w gv G h)
  by_cases hr : rightB G = false
  · have hl : loopB G part = false := by
      rcases part with _ | ⟨k, _ | ⟨k2, t⟩⟩ <;> simp [loopB, hr]
    rw [hl]
    rw [hr] at HR
    clear hr hl h hp
    go_enter Try.func16, Try.ntmps16
    go_wp2_with fail
    refine HR.out.mono ?_
    rintro e w1 ⟨rfl, rfl⟩
    go_wp2_with fail
    go_ret
    exact ⟨rfl, Below.refl _ _⟩
  · have hr' : rightB G = true := by simpa using hr
    rw [hr'] at HR
    obtain ⟨po, pc, pb, poff, rfl, hpl, hpc⟩ := hp
    rcases part with _ | ⟨q, _ | ⟨k2, t⟩⟩
    · have hl : loopB G [] = false := rfl
      rw [hl]
      simp only [List.length_nil]
      clear hr hr' h hpc hpl hl
      go_enter Try.func16, Try.ntmps16
      go_wp2_with fail
      refine HR.out.mono ?_
      rintro e w1 ⟨rfl, rfl⟩
      go_wp2_with fail
      go_ret
      exact ⟨rfl, Below.refl _ _⟩
    · obtain ⟨rfl, ck, k1, k2⟩ := hpc 0 q rfl
      rw [Nat.add_zero] at ck
      simp only [List.length_cons, List.length_nil, Nat.zero_add] at *
      obtain ⟨ga, gc, rfl, hgl⟩ := rows_view h
      obtain ⟨n, hn⟩ : ∃ n, n = G.length := ⟨_, rfl⟩
      rw [← hn] at HR h hgl ⊢
      have HN := hid hn
      by_cases hk : 0 ≤ q ∧ q < (n : Int)
      · obtain ⟨hk1, hk2⟩ := hk
        obtain ⟨kn, rfl⟩ : ∃ kn : Nat, q = (kn : Int) := ⟨q.toNat, by omega⟩
        have hkl : kn < n := by omega
        obtain ⟨l, hl⟩ : ∃ l, G[kn]? = some l := ⟨_, List.getElem?_eq_getElem (hn ▸ hkl)⟩
        obtain ⟨b1, o1, lo, lc, rfl, c1, i1⟩ := rows_cell h hl
        have e : loopB G [(kn : Int)] = decide ((kn : Int) ∈ l) := by
          have h1 : decide ((0 : Int) ≤ (kn : Int)) = true := by simp
          have h2 : decide ((kn : Int) < (G.length : Int)) = true := by rw [← hn]; simp; omega
          simp only [loopB, hr', h1, h2, Bool.true_and, Int.toNat_natCast, hl, Option.getD_some]
        rw [e]
        obtain ⟨ln, hln⟩ : ∃ ln, ln = l.length := ⟨_, rfl⟩
        rw [← hln] at c1 i1
        have hln2 := (ints_len i1).1
        have HLN := hid hln
        have HI := hid i1
        have HC1 := hid c1
        have HCK := hid ck
        clear hr hr' h hpc hl e hk1 hk2 hn hln i1 hpl
        go_enter Try.func16, Try.ntmps16
        go_wp2_with fail
        refine HR.out.mono ?_
        rintro e w1 ⟨rfl, rfl⟩
        go_wp2_with fail
        clear c1 ck
        go_loopw [5] (fun kv y => RlRel w1 l (kn : Int) kv y) (fun kv _ => ln - (intOf kv).toNat)
        case atStart => exact ⟨0, rfl, Nat.zero_le _, by simp, Below.refl _ _⟩
        case round =>
          obtain ⟨k, rfl, hk, hnot, hb⟩ := hrel
          rw [← HLN.out] at hk
          have c1 := (hb.cell (World.block_lt_of_cell? _ _ HC1.out)).trans HC1.out
          have c2 := (hb.cell (World.block_lt_of_cell? _ _ HCK.out)).trans HCK.out
          have HNOT := hid hnot
          by_cases hkn : k < ln
          · obtain ⟨x, hx⟩ : ∃ x, l[k]? = some x := ⟨_, List.getElem?_eq_getElem (HLN.out ▸ hkn)⟩
            obtain ⟨b2, o2, rfl, c3w, x1, x2⟩ := ints_cell HI.out hx
            have d1 : ∀ m, (wr.drewN m).cell? ⟨b1, o1 + kn, none⟩ = some (.slice (some ⟨b2, o2, none⟩) ln lc) := fun m => c1
            have d2 : ∀ m, (wr.drewN m).cell? ⟨pb, poff, none⟩ = some (.int .i64 (kn : Int)) := fun m => c2
            have d3 : ∀ m, (wr.drewN m).cell? ⟨b2, o2 + k, none⟩ = some (.int .i64 x) := fun m => (hb.cell (World.block_lt_of_cell? _ _ c3w)).trans c3w
            have HX := hid hx
            have HB := hid hb
            clear hb hx hnot c3w
            by_cases hxk : x = (kn : Int)
            · have HE := hid (show decide ((kn : Int) ∈ l) = true from by
                simp only [decide_eq_true_eq]
                exact hxk ▸ List.mem_of_getElem? HX.out)
              subst hxk
              go_wp2_with fail
              go_quiet (fail)
              go_wp2_with fail
              go_ret
              exact ⟨ret_bool HE.out.symm, bdrew HB.out _⟩
            · have RR := hid (fun m => show RlRel w1 l (kn : Int) (.int .i64 ((k : Int) + 1)) (wr.drewN m) from ⟨k + 1, by simp, by have := HLN.out; omega, by
                rw [List.take_add_one, HX.out]
                simp only [Option.toList_some, List.mem_append, List.mem_singleton, not_or]
                exact ⟨HNOT.out, fun e => hxk e.symm⟩, bdrew HB.out _⟩)
              go_wp2_with fail
              go_quiet (fail)
              go_wp2_with fail
              go_roundw
              case rel => exact RR.out _
              case measure => simp [intOf]; omega
          · have HE := hid (show decide ((kn : Int) ∈ l) = false from by
              rw [List.take_of_length_le (by have := HLN.out; omega)] at hnot
              simpa using hnot)
            have HB := hid hb
            clear hb hnot
            go_wp2_with fail
            go_ret
            exact ⟨ret_bool HE.out.symm, HB.out⟩
      · have e : loopB G [q] = false := by
          unfold loopB
          by_cases h1 : 0 ≤ q
          · have h2 : ¬ q < (G.length : Int) := fun h2 => hk ⟨h1, by rw [hn]; exact h2⟩
            simp [h2]
          · simp [h1]
        rw [e]
        clear hr hr' h hpc e hn hpl
        by_cases h1 : 0 ≤ q
        · have h2 : ¬ q < (n : Int) := fun h2 => hk ⟨h1, h2⟩
          clear hk
          go_enter Try.func16, Try.ntmps16
          go_wp2_with fail
          refine HR.out.mono ?_
          rintro e w1 ⟨rfl, rfl⟩
          go_wp2_with fail
          go_ret
          exact ⟨rfl, Below.refl _ _⟩
        · clear hk
          go_enter Try.func16, Try.ntmps16
          go_wp2_with fail
          refine HR.out.mono ?_
          rintro e w1 ⟨rfl, rfl⟩
          go_wp2_with fail
          go_ret
          exact ⟨rfl, Below.refl _ _⟩
    · have e : loopB G (q :: k2 :: t) = true := hr'
      rw [e]
      obtain ⟨n, hn⟩ : ∃ n, n = (q :: k2 :: t).length := ⟨_, rfl⟩
      have hn1 : 1 < n := by rw [hn]; simp
      rw [← hn] at hpl ⊢
      clear hr hr' h hpc e hn
      go_enter Try.func16, Try.ntmps16
      go_wp2_with fail
      refine HR.out.mono ?_
      rintro e w1 ⟨rfl, rfl⟩
      go_wp2_with fail
      go_ret
      exact ⟨rfl, Below.refl _ _⟩

end Go.Proofs.Ytagfgbmaibadjaa
