/- Contracts of slices.Contains of ints and of islands.IsLoop. -/
import Derived.Test.YtagfgbmaibadjaaIsMem
namespace Go.Proofs.Ytagfgbmaibadjaa
open Go.RowKit Go.Lib

theorem contains_any (w : World) (lv : Value) (l : List Int) (h : IntsIn w lv l) (x : Int) (h1 : -9223372036854775808 ≤ x) (h2 : x ≤ 9223372036854775807) :
    Calls Try.prog 31 #[lv, .int .i64 x] w fun e w' => e = .returned (.bool (decide (x ∈ l))) ∧ w' = w := by
  have HI := hid (index_any w lv l h x h1 h2)
  clear h h1 h2
  go_enter Try.func31, Try.ntmps31
  go_wp2_with fail
  refine HI.out.mono ?_
  rintro e w' ⟨rfl, rfl⟩
  by_cases hx : x ∈ l
  · obtain ⟨y, hy⟩ : ∃ y : Nat, findI x l = (y : Int) := ⟨l.idxOf x, by simp [findI, hx]⟩
    rw [hy]
    have hd : decide (x ∈ l) = true := by simpa using hx
    have HD := hid hd
    clear hy hd hx HI
    go_wp2_with fail
    go_ret
    exact ⟨ret_bool HD.out.symm, rfl⟩
  · have hy : findI x l = -1 := by simp [findI, hx]
    rw [hy]
    have hd : decide (x ∈ l) = false := by simpa using hx
    have HD := hid hd
    clear hy hd hx HI
    go_wp2_with fail
    go_ret
    exact ⟨ret_bool HD.out.symm, rfl⟩

/-- whether a part goes in a circle -/
def loopB (G : List (List Int)) : List Int → Bool
  | [] => false
  | [k] => rightB G && (decide (0 ≤ k) && (decide (k < (G.length : Int)) && decide (k ∈ (G[k.toNat]?).getD [])))
  | _ :: _ :: _ => rightB G

def LoopEnd (w : World) (b : Bool) (e : Ending) (w' : World) : Prop := e = .returned (.bool b) ∧ Below w.heap.size w w'

set_option maxHeartbeats 1000000 in
theorem loop_any (w : World) (gv pv : Value) (G : List (List Int)) (part : List Int) (h : RowsIn w gv G) (hp : IntsIn w pv part) : Calls Try.prog 15 #[gv, pv] w (LoopEnd w (loopB G part)) := by
  have HR := hid (right_any w gv G h)
  by_cases hr : rightB G = false
  · have hl : loopB G part = false := by
      rcases part with _ | ⟨k, _ | ⟨k2, t⟩⟩ <;> simp [loopB, hr]
    rw [hl]
    rw [hr] at HR
    clear hr hl h hp
    go_enter Try.func15, Try.ntmps15
    go_wp2_with fail
    refine HR.out.mono ?_
    rintro e w1 ⟨rfl, hb⟩
    go_wp2_with fail
    go_ret
    exact ⟨rfl, hb⟩
  · have hr' : rightB G = true := by simpa using hr
    rw [hr'] at HR
    obtain ⟨po, pc, pb, poff, rfl, hpl, hpc⟩ := hp
    rcases part with _ | ⟨k, _ | ⟨k2, t⟩⟩
    · have hl : loopB G [] = false := rfl
      rw [hl]
      simp only [List.length_nil]
      clear hr hr' h hpc hpl hl
      go_enter Try.func15, Try.ntmps15
      go_wp2_with fail
      refine HR.out.mono ?_
      rintro e w1 ⟨rfl, hb⟩
      go_wp2_with fail
      go_ret
      exact ⟨rfl, hb⟩
    · obtain ⟨rfl, ck, k1, k2⟩ := hpc 0 k rfl
      rw [Nat.add_zero] at ck
      simp only [List.length_cons, List.length_nil, Nat.zero_add] at *
      by_cases hk : 0 ≤ k ∧ k < (G.length : Int)
      · obtain ⟨hk1, hk2⟩ := hk
        obtain ⟨kn, rfl⟩ : ∃ kn : Nat, k = (kn : Int) := ⟨k.toNat, by omega⟩
        have hkl : kn < G.length := by omega
        have h0 := h
        obtain ⟨go, gc, gb, goff, rfl, hgl, hgc⟩ := h0
        obtain ⟨l, hl⟩ : ∃ l, G[kn]? = some l := ⟨_, List.getElem?_eq_getElem hkl⟩
        obtain ⟨rfl, lv, clv, hli⟩ := hgc kn l hl
        have e : loopB G [(kn : Int)] = decide ((kn : Int) ∈ l) := by
          have h1 : decide ((0 : Int) ≤ (kn : Int)) = true := by simp
          have h2 : decide ((kn : Int) < (G.length : Int)) = true := by simp; omega
          simp only [loopB, hr', h1, h2, Bool.true_and, Int.toNat_natCast, hl, Option.getD_some]
        rw [e]
        obtain ⟨n, hn⟩ : ∃ n, n = G.length := ⟨_, rfl⟩
        rw [← hn] at HR hkl hgl ⊢
        have hC := hid (fun (y : World) (hy : Below w.heap.size w y) => contains_any y lv l (hli.below hy) kn (by omega) (by omega))
        have HCK := hid ck
        have HCL := hid clv
        clear hr hr' h hpc hgc hli hl e hk1 hk2 hn ck clv
        go_enter Try.func15, Try.ntmps15
        go_wp2_with fail
        refine HR.out.mono ?_
        rintro e w1 ⟨rfl, hb⟩
        have ck1 := (hb.cell (World.block_lt_of_cell? _ _ HCK.out)).trans HCK.out
        have cl1 := (hb.cell (World.block_lt_of_cell? _ _ HCL.out)).trans HCL.out
        go_wp2_with fail
        refine (hC.out w1 hb).mono ?_
        rintro e w2 ⟨rfl, rfl⟩
        go_wp2_with fail
        go_ret
        exact ⟨rfl, hb⟩
      · have e : loopB G [k] = false := by
          unfold loopB
          by_cases h1 : 0 ≤ k
          · have h2 : ¬ k < (G.length : Int) := fun h2 => hk ⟨h1, h2⟩
            simp [h2]
          · simp [h1]
        rw [e]
        have HCK := hid ck
        obtain ⟨go, gc, gb, goff, rfl, hgl, hgc⟩ := h
        obtain ⟨n, hn⟩ : ∃ n, n = G.length := ⟨_, rfl⟩
        rw [← hn] at HR hgl hk ⊢
        clear hr hr' hpc hgc e ck hn
        by_cases h1 : 0 ≤ k
        · have h2 : ¬ k < (n : Int) := fun h2 => hk ⟨h1, h2⟩
          clear hk
          go_enter Try.func15, Try.ntmps15
          go_wp2_with fail
          refine HR.out.mono ?_
          rintro e w1 ⟨rfl, hb⟩
          have ck1 := (hb.cell (World.block_lt_of_cell? _ _ HCK.out)).trans HCK.out
          go_wp2_with fail
          go_ret
          exact ⟨rfl, hb⟩
        · clear hk
          go_enter Try.func15, Try.ntmps15
          go_wp2_with fail
          refine HR.out.mono ?_
          rintro e w1 ⟨rfl, hb⟩
          have ck1 := (hb.cell (World.block_lt_of_cell? _ _ HCK.out)).trans HCK.out
          go_wp2_with fail
          go_ret
          exact ⟨rfl, hb⟩
    · have e : loopB G (k :: k2 :: t) = true := hr'
      rw [e]
      obtain ⟨n, hn⟩ : ∃ n, n = (k :: k2 :: t).length := ⟨_, rfl⟩
      have hn1 : 1 < n := by rw [hn]; simp
      rw [← hn] at hpl ⊢
      clear hr hr' h hpc e hn
      go_enter Try.func15, Try.ntmps15
      go_wp2_with fail
      refine HR.out.mono ?_
      rintro e w1 ⟨rfl, hb⟩
      go_wp2_with fail
      go_ret
      exact ⟨rfl, hb⟩

end Go.Proofs.Ytagfgbmaibadjaa
