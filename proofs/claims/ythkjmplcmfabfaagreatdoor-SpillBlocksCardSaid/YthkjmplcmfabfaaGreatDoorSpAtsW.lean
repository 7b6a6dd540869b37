/- Contract of the law's spillAts. No condition. -/
import Derived.Test.YthkjmplcmfabfaaGreatDoorSpPl
import Derived.Test.YthkjmplcmfabfaaGreatDoorSpEq
import Derived.Deep.RegionHeldLaw
namespace Go.Proofs.YthkjmplcmfabfaaGreatDoor
open Go.RowKit Go.Lib

theorem len_flat : ∀ (r : List PAt), (r.flatMap atC).length = r.length * 3
  | [] => rfl
  | x :: r => by rw [List.flatMap_cons, List.length_append, len_flat r, List.length_cons]; simp [atC]; omega
/-- places appended that lie in a row -/
theorem AtsOwn.src {w : World} {B : Nat} {v : Value} {l : List PAt} (h : AtsOwn w B v l) (hB : B ≤ w.heap.size) {b off m c : Nat} {r : List PAt} (hm : m = r.length) (hs : m ≠ 0 → AtsIn w (.slice (some ⟨b, off, none⟩) m c) r) (hl : l.length + r.length ≤ 1000000) :
    ∃ v' w2, (Builtin.append_ #[22, 22] 22 #[v, .slice (some ⟨b, off, none⟩) m c]).run Tryz.prog w = .ok v' w2 ∧ AtsOwn w2 B v' (l ++ r) ∧ Chg (own v) w w2 ∧ (∃ a c', v' = .slice a (l.length + r.length) c') ∧ ∀ g, v'.ownBlock = some g → v.ownBlock = some g ∨ w.heap.size ≤ g := by
  obtain ⟨i0, hi, hz0, hz1, hz2⟩ := info_parts ats_info
  obtain ⟨v', w2, h1, h2, h3, _, h5⟩ := run_append_own_at (P := Tryz.prog) w B 22 22 38 i0 (.agg #[.int .i64 0, .int .i64 0, .int .i64 0]) 3 24 Tryz.underlying22 hi hz0 hz1 hz2 rfl (by decide) v l.length _ h
    ⟨b, off, none⟩ m c (r.flatMap atC) (by
      rw [hm, len_flat]) (by
      intro j u hu
      have hr : r ≠ [] := by rintro rfl; simp at hu
      have hm0 : m ≠ 0 := by rw [hm]; exact fun h => hr (List.length_eq_zero_iff.1 h)
      obtain ⟨ao, c', b', o', e, -, hh⟩ := (hs hm0)
      have hj : j < r.length * 3 := by
        have := (List.getElem?_eq_some_iff.1 hu).1
        rw [len_flat] at this
        omega
      obtain ⟨q, hq⟩ : ∃ q, r[j / 3]? = some q := ⟨_, List.getElem?_eq_getElem (by omega)⟩
      obtain ⟨rfl, hc⟩ := hh (j / 3) (atC q) (by simp [hq])
      simp only [Value.slice.injEq, Option.some.injEq, Addr.mk.injEq] at e
      obtain ⟨⟨rfl, rfl, -⟩, -, -⟩ := e
      have hu' : (atC q)[j % 3]? = some u := by
        have := flat_get (k := 3) (r.map atC) (by intro c hc; obtain ⟨q, -, rfl⟩ := List.mem_map.1 hc; rfl) (j / 3) (j % 3) (atC q) (by simp [hq]) (by omega)
        rw [← this, ← List.flatMap_def, show j / 3 * 3 + j % 3 = j by omega]
        exact hu
      have := hc (j % 3) u hu'
      rw [Addr.add_lit]
      rw [show off + j / 3 * 3 + j % 3 = off + j by omega] at this
      exact this) (by
      intro u hu
      obtain ⟨q, -, hq⟩ := List.mem_flatMap.1 hu
      simp [atC] at hq
      rcases hq with rfl | rfl | rfl <;> rfl) (by unfold maxLen; omega) (by omega) hB
  refine ⟨v', w2, h1, ?_, (Chg.refl _ w).grown h3 (fun k hk => .inl (by simp [own, hk])), ?_, fun g hg => ?_⟩
  · unfold AtsOwn
    rw [List.length_append, List.flatMap_append, ← hm]
    exact h2
  · obtain ⟨a, c', e, _⟩ := ownsRow_view h2
    exact ⟨a, c', by rw [e, hm]⟩
  · rcases h5 with h5 | h5
    · exact .inl (h5 ▸ hg)
    · rw [hg] at h5
      simp only [Option.some.injEq] at h5
      exact .inr (by omega)

theorem AtsIn.take {w : World} {b off m c c' k : Nat} {O : List PAt} (h : AtsIn w (.slice (some ⟨b, off, none⟩) m c) O) (hk : k ≤ m) : AtsIn w (.slice (some ⟨b, off, none⟩) k c') (O.take k) := by
  obtain ⟨ao, c0, b', o', e, hl, hh⟩ := h
  simp only [Value.slice.injEq] at e
  obtain ⟨rfl, e2, -⟩ := e
  rw [List.length_map] at e2
  refine ⟨_, c', b', o', by rw [List.length_map, List.length_take, ← e2, Nat.min_eq_left hk], by rw [List.length_map] at hl ⊢; rw [List.length_take]; omega, fun j cs hj => hh j cs ?_⟩
  rw [List.map_take] at hj
  by_cases hjk : j < k
  · rwa [List.getElem?_take_of_lt hjk] at hj
  · rw [List.getElem?_take_eq_none (by omega)] at hj
    cases hj
theorem AtsIn.drop {w : World} {b m c c' k : Nat} {O : List PAt} (h : AtsIn w (.slice (some ⟨b, 0, none⟩) m c) O) (hk : k ≤ m) : AtsIn w (.slice (some ⟨b, k * 3, none⟩) (m - k) c') (O.drop k) := by
  obtain ⟨ao, c0, b', o', e, hl, hh⟩ := h
  simp only [Value.slice.injEq] at e
  obtain ⟨rfl, e2, -⟩ := e
  rw [List.length_map] at e2
  refine ⟨_, c', b, k * 3, by rw [List.length_map, List.length_drop, ← e2], by rw [List.length_map] at hl ⊢; rw [List.length_drop]; omega, fun j cs hj => ⟨rfl, fun i u hu => ?_⟩⟩
  rw [List.map_drop, List.getElem?_drop] at hj
  obtain ⟨e3, h3⟩ := hh (k + j) cs hj
  simp only [Option.some.injEq, Addr.mk.injEq] at e3
  obtain ⟨rfl, rfl, -⟩ := e3
  have := h3 i u hu
  rwa [show 0 + (k + j) * 3 + i = k * 3 + j * 3 + i by omega] at this
/-- the ways of a region that come to one end go on as one -/
theorem one_end {A G : World → Prop} {Q : Prop} (main : (∀ w, A w → G w) → Q) (tail : ∀ w, A w → G w) : Q := main tail
structure AiM (w : World) (p : PAt) (g : Nat) (y : World) : Prop where
  tgt : y.heap[g]? = some (.cells #[.int .i64 p.1, .int .i64 p.2.1, .int .i64 p.2.2] 38 (0, 0))
  low : Below w.heap.size w y
theorem AiM.keep {w y z : World} {p : PAt} {g : Nat} (h : AiM w p g y) (hb : Below y.heap.size y z) : AiM w p g z := ⟨(hb.block _ (heap_lt h.tgt)).trans h.tgt, h.low.trans (hb.mono h.low.size)⟩
def AiC (w : World) (p q : PAt) (g cb o : Nat) (y : World) : Prop :=
  (y.cell? ⟨cb, o, none⟩ = some (.int .i64 q.1) ∧ y.cell? ⟨cb, o + 1, none⟩ = some (.int .i64 q.2.1) ∧ y.cell? ⟨cb, o + 2, none⟩ = some (.int .i64 q.2.2)) ∧
  (y.cell? ⟨g, 0, none⟩ = some (.int .i64 p.1) ∧ y.cell? ⟨g, 1, none⟩ = some (.int .i64 p.2.1) ∧ y.cell? ⟨g, 2, none⟩ = some (.int .i64 p.2.2)) ∧ AiM w p g y
theorem AiM.cls {w y : World} {p q : PAt} {g cb o : Nat} (h : AiM w p g y) (h0 : w.cell? ⟨cb, o, none⟩ = some (.int .i64 q.1)) (h1 : w.cell? ⟨cb, o + 1, none⟩ = some (.int .i64 q.2.1)) (h2 : w.cell? ⟨cb, o + 2, none⟩ = some (.int .i64 q.2.2)) : AiC w p q g cb o y := by
  have k : ∀ {p : Addr} {u : Value}, w.cell? p = some u → y.cell? p = some u := fun {p u} hc => (h.low.cell (World.block_lt_of_cell? _ _ hc)).trans hc
  exact ⟨⟨k h0, k h1, k h2⟩, ⟨cell_of h.tgt rfl, cell_of h.tgt rfl, cell_of h.tgt rfl⟩, h⟩
theorem AiC.keep {w y z : World} {p q : PAt} {g cb o : Nat} (h : AiC w p q g cb o y) (hb : Below y.heap.size y z) : AiC w p q g cb o z := by
  have k : ∀ {p : Addr} {u : Value}, y.cell? p = some u → z.cell? p = some u := fun {p u} hc => (hb.cell (World.block_lt_of_cell? _ _ hc)).trans hc
  exact ⟨⟨k h.1.1, k h.1.2.1, k h.1.2.2⟩, ⟨k h.2.1.1, k h.2.1.2.1, k h.2.1.2.2⟩, h.2.2.keep hb⟩
theorem ai_of {A B C : Prop} (h : A ∧ B ∧ C) : C := h.2.2
def AiRel (w : World) (O : List PAt) (p : PAt) (g : Nat) (a t k : Value) (wr : World) : Prop :=
  ∃ m : Nat, k = .int .i64 (m : Int) ∧ m ≤ O.length ∧ a = .int .i64 (cutP p (O.take m) : Nat) ∧ t = .bool (decide (p ∈ O.take m)) ∧ AiM w p g wr
def AwRel (w : World) (L : List PAt) (o i : Value) (wr : World) : Prop := ∃ j : Nat, i = .int .i64 (j : Int) ∧ j ≤ L.length ∧ j ≤ 12 ∧ AtsOwn wr w.heap.size o (atsUpto L j) ∧ Below w.heap.size w wr
set_option maxRecDepth 20000 in
set_option maxHeartbeats 8000000 in
theorem spillAts_any (w : World) (lv : Value) (L : List PAt) (hl : AtsIn w lv L) (hL : ∀ p, p ∈ L → SmallAt p) :
    Calls Tryz.prog 15 #[lv] w fun e w' => (∃ ov, e = .returned ov ∧ AtsOwn w' w.heap.size ov (atsOf L)) ∧ Below w.heap.size w w' := by
  obtain ⟨la, lc, lb, lo, rfl, hll, hlv⟩ := hl.view
  have HLV := hid hlv
  have HSM := hid hL
  obtain ⟨n, hn⟩ : ∃ n, n = L.length := ⟨_, rfl⟩
  rw [← hn] at hll ⊢
  have HN := hid hn
  have HPK := hid (fun (c n : Int) (w : World) h1 h2 h3 h4 => pick_any c n w h1 h2 h3 h4)
  clear hl hL hlv hn
  go_enter Tryz.func15, Tryz.ntmps15
  go_wp2_with fail
  go_loopw [3, 4] (fun o i wr => AwRel w L o i wr) (fun _ i _ => n - (RowKit.intOf i).toNat)
  case atStart => exact ⟨0, rfl, by omega, by omega, AtsOwn.nil _ _, Below.refl _ _⟩
  case round =>
    obtain ⟨j, rfl, hj, hj12, hO, hb⟩ := hrel
    rw [← HN.out] at hj
    obtain ⟨oa, om, oc, rfl, hom⟩ := hO.view
    have HO := hid hO
    have HB := hid hb
    have HOM := hid hom
    clear hO hb hom
    by_cases hjn : j < n
    · by_cases hj2 : j < 12
      · obtain ⟨p, hp⟩ : ∃ p, L[j]? = some p := ⟨_, List.getElem?_eq_getElem (by rw [← HN.out]; omega)⟩
        obtain ⟨rfl, k0, k1, k2⟩ := HLV.out j p hp
        have kk : ∀ {p : Addr} {u : Value}, w.cell? p = some u → wr.cell? p = some u := fun {p u} hc => (HB.out.cell (World.block_lt_of_cell? _ _ hc)).trans hc
        have k0' := kk k0
        have k1' := kk k1
        have k2' := kk k2
        have hsm := HSM.out p (List.mem_of_getElem? hp)
        unfold SmallAt at hsm
        obtain ⟨s1, s2, s3⟩ := hsm
        have HP := hid hp
        have hd1 : decide ((j : Int) < (n : Int)) = true := decide_eq_true (by omega)
        have hd2 : decide ((j : Int) < 12) = true := decide_eq_true (by omega)
        clear kk k0 k1 k2 hp
        -- ROUND (printed by gen_atsw.py)
        obtain ⟨q0, hq0⟩ : ∃ q0, q0 = pk p.1 2 := ⟨_, rfl⟩
        obtain ⟨q1, hq1⟩ : ∃ q1, q1 = pk p.2.1 8 := ⟨_, rfl⟩
        obtain ⟨q2, hq2⟩ : ∃ q2, q2 = pk p.2.2 6 := ⟨_, rfl⟩
        have HQ0 := hid hq0
        have HQ1 := hid hq1
        have HQ2 := hid hq2
        have z1 := pk_range p.2.1 8 (by omega)
        have z2 := pk_range p.2.2 6 (by omega)
        rw [← hq1] at z1
        rw [← hq2] at z2
        obtain ⟨z11, z12⟩ := z1
        obtain ⟨z21, z22⟩ := z2
        clear hq0 hq1 hq2
        go_wp2_with fail
        apply one_end (A := fun y => y.heap[wr.heap.size]? = some (.cells #[.int .i64 q0, .int .i64 q1, .int .i64 q2] 38 (0, 0)) ∧ Below wr.heap.size wr y)
        · intro key
          go_region_held (fun y => y.cell? ⟨lb, lo + j * 3, none⟩ = some (.int .i64 p.1) ∧ y.cell? ⟨lb, lo + j * 3 + 1, none⟩ = some (.int .i64 p.2.1) ∧ y.cell? ⟨lb, lo + j * 3 + 2, none⟩ = some (.int .i64 p.2.2)) (go_keep) (first | (go_at_call 8; refine (HPK.out _ _ _ (by omega) (by omega) (by omega) (by omega)).mono ?_; rintro e w1 ⟨rfl, rfl⟩))
          all_goals rw [← HQ0.out, ← HQ1.out, ← HQ2.out]
          all_goals exact key _ ⟨heap_alloc_new wr _, ((Below.refl _ wr).alloc (Nat.le_refl _) _).drew⟩
        · rintro w4 ⟨G4, B4⟩
          obtain ⟨g, hg⟩ : ∃ g, g = wr.heap.size := ⟨_, rfl⟩
          have HG := hid hg
          have HB4 := hid B4
          have k1'' := (B4.cell (World.block_lt_of_cell? _ _ k1')).trans k1'
          rw [← hg] at G4 ⊢
          have HG4 := hid G4
          have e1 := cell_of (i := 1) G4 rfl
          have e2 := cell_of (i := 2) G4 rfl
          have f1 := free_of (i := 1) G4
          have f2 := free_of (i := 2) G4
          clear k0' k1' k2' B4 G4 hg
          go_wp2_with fail
          refine (HPK.out _ _ _ (by omega) (by omega) (by omega) (by omega)).mono ?_
          rintro e w5 ⟨rfl, rfl⟩
          by_cases h17 : pk p.2.1 17 = 16
          · rw [h17]
            have HRAW := hid (show rawP p = (q0, 199 - q1 % 3, 51 - q2 % 3) by rw [HQ0.out, HQ1.out, HQ2.out]; exact if_pos h17)
            clear h17
            go_wp2_with fail
            have G5 := heap_setCell_at (i := 2) (heap_setCell_at (i := 1) HG4.out (.int .i64 (199 - q1 % 3))) (.int .i64 (51 - q2 % 3))
            have B5 := (HB4.out.setCell (p := ⟨g, 1, none⟩) (by rw [HG.out]; exact Nat.le_refl _) (.int .i64 (199 - q1 % 3))).setCell (p := ⟨g, 2, none⟩) (by rw [HG.out]; exact Nat.le_refl _) (.int .i64 (51 - q2 % 3))
            generalize World.setCell _ _ _ = w6 at G5 B5 ⊢
            clear e1 e2 f1 f2 k1''
            obtain ⟨pq, hpq⟩ : ∃ pq, pq = rawP p := ⟨_, rfl⟩
            have G6 : w6.heap[g]? = some (.cells #[.int .i64 pq.1, .int .i64 pq.2.1, .int .i64 pq.2.2] 38 (0, 0)) := by rw [hpq, HRAW.out]; exact G5
            have HPQ := hid hpq
            have O6 := HO.out.below B5
            obtain ⟨oa', oc', ob, off, eo, hol, hov⟩ := O6.read.view
            have hoa : oa' = oa := by injection eo with h1 h2 h3; exact h1.symm
            obtain rfl := hoa
            have hom12 : om ≤ 12 := by rw [HOM.out]; exact Nat.le_trans (atsUpto_ok L j).few hj12
            have HOV := hid hov
            have HRI := hid (atsUpto_ok L j).rising
            have HW6 := hid (show AiM w6 pq g w6 from ⟨G6, Below.refl _ _⟩)
            have HO6 := hid O6
            have HB6 := hid (HB.out.trans (B5.mono HB.out.size))
            clear G5 G6 B5 O6 hov eo hpq hol HRAW HB4 HG4 HO HB HG
            go_loopw [6, 7, 8] (fun a t k wr => AiRel w6 (atsUpto L j) pq g a t k wr) (fun _ _ k _ => om - (RowKit.intOf k).toNat)
            case atStart => exact ⟨0, rfl, by omega, rfl, rfl, HW6.out⟩
            case round =>
              obtain ⟨m, rfl, hm, rfl, rfl, hM⟩ := hrel
              rw [← HOM.out] at hm
              obtain ⟨cu, hcu⟩ : ∃ cu, cu = cutP pq ((atsUpto L j).take m) := ⟨_, rfl⟩
              obtain ⟨tb, htb⟩ : ∃ tb, tb = decide (pq ∈ (atsUpto L j).take m) := ⟨_, rfl⟩
              rw [← hcu, ← htb]
              have HCU := hid hcu
              have HTB := hid htb
              have HM := hid hM
              clear hcu htb hM HW6
              by_cases hmo : m < om
              · obtain ⟨q, hq⟩ : ∃ q, (atsUpto L j)[m]? = some q := ⟨_, List.getElem?_eq_getElem (by rw [← HOM.out]; omega)⟩
                obtain ⟨rfl, y0, y1, y2⟩ := HOV.out m q hq
                have HC := hid ((HM.out.cls y0 y1 y2).keep (Below.refl _ wr).drew)
                have HCR := hid (cutP_round (p := pq) HRI.out hq)
                have hx1 : ((m : Int) < (om : Int)) = True := by rw [eq_iff_iff, iff_true]; omega
                have hx2 : m < om := by omega
                have hmem : (pq ∈ (atsUpto L j).take (m + 1)) ↔ (pq ∈ (atsUpto L j).take m ∨ pq = q) := by
                  obtain ⟨hk', ek⟩ := List.getElem?_eq_some_iff.1 hq
                  rw [List.take_succ_eq_append_getElem hk', ek, List.mem_append, List.mem_singleton]
                have HMEM := hid hmem
                have hq' := hq
                clear y0 y1 y2 hq hmem
                have HSQ := hid (small_two ((atsUpto_ok L j).two q (List.mem_of_getElem? hq')))
                have HSP := hid (show SmallAt pq by rw [HPQ.out]; exact small_two (rawP_in p))
                clear hq'
                by_cases ha : aheadP q pq
                · have he : q ≠ pq := ha.ne
                  cases tb
                  · have HA2 := hid (fun w => show Calls Tryz.prog 31 #[.agg #[.int .i64 q.1, .int .i64 q.2.1, .int .i64 q.2.2], .agg #[.int .i64 pq.1, .int .i64 pq.2.1, .int .i64 pq.2.2]] w fun e w' => e = .returned (.bool true) ∧ Below w.heap.size w w' by have := ahead_any q pq w; rwa [decide_eq_true ha] at this)
                    have HC2 := hid (show cutP pq ((atsUpto L j).take (m + 1)) = m + 1 by rw [HCR.out, if_pos ha])
                    have HT2 := hid (show decide (pq ∈ (atsUpto L j).take (m + 1)) = false from decide_eq_false (fun h => by rcases HMEM.out.1 h with h | h; exact of_decide_eq_false HTB.out.symm h; exact he h.symm))
                    have heq := fun w => eq_at q pq HSQ.out HSP.out w
                    rw [decide_eq_false he] at heq
                    unfold atV at heq
                    clear ha he
                    go_wp2_with fail
                    go_region_held (fun y => (y.cell? ⟨ob, off + m * 3, none⟩ = some (.int .i64 q.1) ∧ y.cell? ⟨ob, off + m * 3 + 1, none⟩ = some (.int .i64 q.2.1) ∧ y.cell? ⟨ob, off + m * 3 + 2, none⟩ = some (.int .i64 q.2.2)) ∧ (y.cell? ⟨g, 0, none⟩ = some (.int .i64 pq.1) ∧ y.cell? ⟨g, 1, none⟩ = some (.int .i64 pq.2.1) ∧ y.cell? ⟨g, 2, none⟩ = some (.int .i64 pq.2.2)) ∧ AiM w6 pq g y) (first | exact HC.out | (refine AiC.keep ?_ ‹Below _ _ _›; assumption)) (first | (go_at_call 31; refine (HA2.out _).mono ?_; rintro e w3 ⟨rfl, b3⟩))
                    have HM3 := hid (show AiM w6 pq g w3 by apply ai_of; assumption)
                    obtain ⟨⟨y0, y1, y2⟩, ⟨y3, y4, y5⟩, -⟩ : AiC w6 pq q g ob (off + m * 3) w3 := by assumption
                    clear HC HCR HA2 b3
                    go_wp2_with fail
                    go_quiet (fail)
                    clear y0 y1 y2 y3 y4 y5
                    go_wp2_with fail
                    go_roundw
                    case rel => exact ⟨m + 1, by simp, by rw [← HOM.out]; omega, by rw [HC2.out]; rfl, by rw [HT2.out], ⟨HM3.out.tgt, below_drewN HM3.out.low _⟩⟩
                    case measure => simp [RowKit.intOf]; omega
                  · clear he
                    have HA2 := hid (fun w => show Calls Tryz.prog 31 #[.agg #[.int .i64 q.1, .int .i64 q.2.1, .int .i64 q.2.2], .agg #[.int .i64 pq.1, .int .i64 pq.2.1, .int .i64 pq.2.2]] w fun e w' => e = .returned (.bool true) ∧ Below w.heap.size w w' by have := ahead_any q pq w; rwa [decide_eq_true ha] at this)
                    have HC2 := hid (show cutP pq ((atsUpto L j).take (m + 1)) = m + 1 by rw [HCR.out, if_pos ha])
                    have HT2 := hid (show decide (pq ∈ (atsUpto L j).take (m + 1)) = true from decide_eq_true (HMEM.out.2 (.inl (of_decide_eq_true HTB.out.symm))))
                    clear ha
                    go_wp2_with fail
                    go_region_held (fun y => (y.cell? ⟨ob, off + m * 3, none⟩ = some (.int .i64 q.1) ∧ y.cell? ⟨ob, off + m * 3 + 1, none⟩ = some (.int .i64 q.2.1) ∧ y.cell? ⟨ob, off + m * 3 + 2, none⟩ = some (.int .i64 q.2.2)) ∧ (y.cell? ⟨g, 0, none⟩ = some (.int .i64 pq.1) ∧ y.cell? ⟨g, 1, none⟩ = some (.int .i64 pq.2.1) ∧ y.cell? ⟨g, 2, none⟩ = some (.int .i64 pq.2.2)) ∧ AiM w6 pq g y) (first | exact HC.out | (refine AiC.keep ?_ ‹Below _ _ _›; assumption)) (first | (go_at_call 31; refine (HA2.out _).mono ?_; rintro e w3 ⟨rfl, b3⟩))
                    have HM3 := hid (show AiM w6 pq g w3 by apply ai_of; assumption)
                    obtain ⟨⟨y0, y1, y2⟩, ⟨y3, y4, y5⟩, -⟩ : AiC w6 pq q g ob (off + m * 3) w3 := by assumption
                    clear HC HCR HA2 b3
                    go_wp2_with fail
                    go_quiet (fail)
                    clear y0 y1 y2 y3 y4 y5
                    go_wp2_with fail
                    go_roundw
                    case rel => exact ⟨m + 1, by simp, by rw [← HOM.out]; omega, by rw [HC2.out]; rfl, by rw [HT2.out], ⟨HM3.out.tgt, below_drewN HM3.out.low _⟩⟩
                    case measure => simp [RowKit.intOf]; omega
                · cases tb
                  · by_cases he : q = pq
                    · have HA2 := hid (fun w => show Calls Tryz.prog 31 #[.agg #[.int .i64 q.1, .int .i64 q.2.1, .int .i64 q.2.2], .agg #[.int .i64 pq.1, .int .i64 pq.2.1, .int .i64 pq.2.2]] w fun e w' => e = .returned (.bool false) ∧ Below w.heap.size w w' by have := ahead_any q pq w; rwa [decide_eq_false ha] at this)
                      have HC2 := hid (show cutP pq ((atsUpto L j).take (m + 1)) = cu by rw [HCR.out, if_neg ha, HCU.out])
                      have HT2 := hid (show decide (pq ∈ (atsUpto L j).take (m + 1)) = true from decide_eq_true (HMEM.out.2 (.inr he.symm)))
                      have heq := fun w => eq_at q pq HSQ.out HSP.out w
                      rw [decide_eq_true he] at heq
                      unfold atV at heq
                      clear ha he
                      go_wp2_with fail
                      go_region_held (fun y => (y.cell? ⟨ob, off + m * 3, none⟩ = some (.int .i64 q.1) ∧ y.cell? ⟨ob, off + m * 3 + 1, none⟩ = some (.int .i64 q.2.1) ∧ y.cell? ⟨ob, off + m * 3 + 2, none⟩ = some (.int .i64 q.2.2)) ∧ (y.cell? ⟨g, 0, none⟩ = some (.int .i64 pq.1) ∧ y.cell? ⟨g, 1, none⟩ = some (.int .i64 pq.2.1) ∧ y.cell? ⟨g, 2, none⟩ = some (.int .i64 pq.2.2)) ∧ AiM w6 pq g y) (first | exact HC.out | (refine AiC.keep ?_ ‹Below _ _ _›; assumption)) (first | (go_at_call 31; refine (HA2.out _).mono ?_; rintro e w3 ⟨rfl, b3⟩))
                      have HM3 := hid (show AiM w6 pq g w3 by apply ai_of; assumption)
                      obtain ⟨⟨y0, y1, y2⟩, ⟨y3, y4, y5⟩, -⟩ : AiC w6 pq q g ob (off + m * 3) w3 := by assumption
                      clear HC HCR HA2 b3
                      go_wp2_with fail
                      go_quiet (fail)
                      clear y0 y1 y2 y3 y4 y5
                      go_wp2_with fail
                      go_roundw
                      case rel => exact ⟨m + 1, by simp, by rw [← HOM.out]; omega, by rw [HC2.out], by rw [HT2.out], ⟨HM3.out.tgt, below_drewN HM3.out.low _⟩⟩
                      case measure => simp [RowKit.intOf]; omega
                    · have HA2 := hid (fun w => show Calls Tryz.prog 31 #[.agg #[.int .i64 q.1, .int .i64 q.2.1, .int .i64 q.2.2], .agg #[.int .i64 pq.1, .int .i64 pq.2.1, .int .i64 pq.2.2]] w fun e w' => e = .returned (.bool false) ∧ Below w.heap.size w w' by have := ahead_any q pq w; rwa [decide_eq_false ha] at this)
                      have HC2 := hid (show cutP pq ((atsUpto L j).take (m + 1)) = cu by rw [HCR.out, if_neg ha, HCU.out])
                      have HT2 := hid (show decide (pq ∈ (atsUpto L j).take (m + 1)) = false from decide_eq_false (fun h => by rcases HMEM.out.1 h with h | h; exact of_decide_eq_false HTB.out.symm h; exact he h.symm))
                      have heq := fun w => eq_at q pq HSQ.out HSP.out w
                      rw [decide_eq_false he] at heq
                      unfold atV at heq
                      clear ha he
                      go_wp2_with fail
                      go_region_held (fun y => (y.cell? ⟨ob, off + m * 3, none⟩ = some (.int .i64 q.1) ∧ y.cell? ⟨ob, off + m * 3 + 1, none⟩ = some (.int .i64 q.2.1) ∧ y.cell? ⟨ob, off + m * 3 + 2, none⟩ = some (.int .i64 q.2.2)) ∧ (y.cell? ⟨g, 0, none⟩ = some (.int .i64 pq.1) ∧ y.cell? ⟨g, 1, none⟩ = some (.int .i64 pq.2.1) ∧ y.cell? ⟨g, 2, none⟩ = some (.int .i64 pq.2.2)) ∧ AiM w6 pq g y) (first | exact HC.out | (refine AiC.keep ?_ ‹Below _ _ _›; assumption)) (first | (go_at_call 31; refine (HA2.out _).mono ?_; rintro e w3 ⟨rfl, b3⟩))
                      have HM3 := hid (show AiM w6 pq g w3 by apply ai_of; assumption)
                      obtain ⟨⟨y0, y1, y2⟩, ⟨y3, y4, y5⟩, -⟩ : AiC w6 pq q g ob (off + m * 3) w3 := by assumption
                      clear HC HCR HA2 b3
                      go_wp2_with fail
                      go_quiet (fail)
                      clear y0 y1 y2 y3 y4 y5
                      go_wp2_with fail
                      go_roundw
                      case rel => exact ⟨m + 1, by simp, by rw [← HOM.out]; omega, by rw [HC2.out], by rw [HT2.out], ⟨HM3.out.tgt, below_drewN HM3.out.low _⟩⟩
                      case measure => simp [RowKit.intOf]; omega
                  · have HA2 := hid (fun w => show Calls Tryz.prog 31 #[.agg #[.int .i64 q.1, .int .i64 q.2.1, .int .i64 q.2.2], .agg #[.int .i64 pq.1, .int .i64 pq.2.1, .int .i64 pq.2.2]] w fun e w' => e = .returned (.bool false) ∧ Below w.heap.size w w' by have := ahead_any q pq w; rwa [decide_eq_false ha] at this)
                    have HC2 := hid (show cutP pq ((atsUpto L j).take (m + 1)) = cu by rw [HCR.out, if_neg ha, HCU.out])
                    have HT2 := hid (show decide (pq ∈ (atsUpto L j).take (m + 1)) = true from decide_eq_true (HMEM.out.2 (.inl (of_decide_eq_true HTB.out.symm))))
                    clear ha
                    go_wp2_with fail
                    go_region_held (fun y => (y.cell? ⟨ob, off + m * 3, none⟩ = some (.int .i64 q.1) ∧ y.cell? ⟨ob, off + m * 3 + 1, none⟩ = some (.int .i64 q.2.1) ∧ y.cell? ⟨ob, off + m * 3 + 2, none⟩ = some (.int .i64 q.2.2)) ∧ (y.cell? ⟨g, 0, none⟩ = some (.int .i64 pq.1) ∧ y.cell? ⟨g, 1, none⟩ = some (.int .i64 pq.2.1) ∧ y.cell? ⟨g, 2, none⟩ = some (.int .i64 pq.2.2)) ∧ AiM w6 pq g y) (first | exact HC.out | (refine AiC.keep ?_ ‹Below _ _ _›; assumption)) (first | (go_at_call 31; refine (HA2.out _).mono ?_; rintro e w3 ⟨rfl, b3⟩))
                    have HM3 := hid (show AiM w6 pq g w3 by apply ai_of; assumption)
                    obtain ⟨⟨y0, y1, y2⟩, ⟨y3, y4, y5⟩, -⟩ : AiC w6 pq q g ob (off + m * 3) w3 := by assumption
                    clear HC HCR HA2 b3
                    go_wp2_with fail
                    go_quiet (fail)
                    clear y0 y1 y2 y3 y4 y5
                    go_wp2_with fail
                    go_roundw
                    case rel => exact ⟨m + 1, by simp, by rw [← HOM.out]; omega, by rw [HC2.out], by rw [HT2.out], ⟨HM3.out.tgt, below_drewN HM3.out.low _⟩⟩
                    case measure => simp [RowKit.intOf]; omega
              · obtain rfl : m = om := by omega
                have HCU2 := hid (show cu = cutP pq (atsUpto L j) by rw [HCU.out, HOM.out, List.take_length])
                have HTB2 := hid (show tb = decide (pq ∈ atsUpto L j) by rw [HTB.out]; congr 1; rw [HOM.out, List.take_length])
                have HNX := hid (atsUpto_next HP.out)
                have HMR := hid (show Below w.heap.size w wr from HB6.out.trans (HM.out.low.mono HB6.out.size))
                have HOR := hid (HO6.out.below HM.out.low)
                cases tb
                · have HPN := hid (show rawP p ∉ atsUpto L j by rw [← HPQ.out]; exact of_decide_eq_false HTB2.out.symm)
                  rcases HOR.out.2 with ⟨hnil, hz⟩ | ⟨g2, cap, cur, hsl, hb2, hh2, hc1, hc2, -⟩
                  · injection hnil with hn1 hn2 hn3
                    subst hn1 hn3
                    have hO0 : atsUpto L j = [] := List.length_eq_zero_iff.1 (by rw [← HOM.out]; exact hn2)
                    have hcu0 : cu = 0 := by rw [HCU2.out, hO0]; rfl
                    obtain ⟨i0, hi, hz0, hz1, hz2⟩ := info_parts ats_info
                    have happ1 := run_append_owned_none (P := Tryz.prog) wr w.heap.size 22 22 38 i0 3 Tryz.underlying22 hi (.slice none 0 0) 0 [] (AtsOwn.nil wr w.heap.size)
                    obtain ⟨a2, c2, w8, happ2, O8, hc8, hn8⟩ := (AtsOwn.nil wr w.heap.size).app (m := 0) (g := wr.heap.size) HMR.out.size rfl rfl (by omega) pq
                    unfold atC at happ2
                    have b8 : Below wr.heap.size wr w8 := hc8.nil_below
                    have happ3 := run_append_owned_none (P := Tryz.prog) w8 w.heap.size 22 22 38 i0 3 Tryz.underlying22 hi _ _ _ O8
                    have RR := hid (show AwRel w L (.slice a2 (0 + 1) c2) (.int .i64 ((j : Int) + 1)) w8 from ⟨j + 1, by simp, by rw [← HN.out]; omega, by omega, by
                      rw [HNX.out]
                      unfold insP
                      rw [if_neg HPN.out, ← HPQ.out]
                      unfold putP
                      rw [hO0]
                      exact O8, HMR.out.trans (b8.mono HMR.out.size)⟩)
                    have t0 := cell_of (i := 0) HM.out.tgt rfl
                    have t1 := cell_of (i := 1) HM.out.tgt rfl
                    have t2 := cell_of (i := 2) HM.out.tgt rfl
                    subst hn2 hcu0
                    clear O8 hc8 hn8 b8 hO0 hz hi hz0 hz1 hz2
                    have tok1 : True := trivial
                    have tok2 : True := trivial
                    go_wp2_with (at_builtin; first | (have _t := tok1; refine wpList_append_run rfl _ _ _ rfl _ _ rfl rfl happ1 ?_; clear tok1 _t) | (have _t := tok2; refine wpList_append_run rfl _ _ _ rfl _ _ rfl rfl happ2 ?_; clear tok2 _t) | refine wpList_append_run rfl _ _ _ rfl _ _ rfl rfl happ3 ?_)
                    go_roundw
                    case rel => exact RR.out
                    case measure => simp [RowKit.intOf]; omega
                  · injection hsl with hn1 hn2 hn3
                    subst hn1 hn3
                    have hmc : m ≤ oc := by rw [hn2]; exact hc1
                    clear hh2 hn2 hc1
                    have hcu1 : cu ≤ m := by rw [HCU2.out, HOM.out]; exact cutP_le _ _
                    by_cases hcc : oc = cu
                    · have hcc' := hcc.symm
                      clear hcc
                      subst hcc'
                      have hlt : ((atsUpto L j).take cu).length = cu := by rw [List.length_take, ← HOM.out]; omega
                      obtain ⟨v1, w7, happ1, O7, hc7, ⟨a1, c1, e7⟩, hn7⟩ := (AtsOwn.nil wr w.heap.size).src (b := g2) (off := 0) (m := cu) (c := cu) (r := (atsUpto L j).take cu) HMR.out.size (by rw [List.length_take, ← HOM.out]; omega) (fun _ => (HOR.out.read).take hcu1) (by rw [hlt]; show 0 + cu ≤ 1000000; omega)
                      rw [List.nil_append] at O7
                      have b7 : Below wr.heap.size wr w7 := hc7.nil_below
                      have M7 := HM.out.keep b7
                      have t0 := cell_of (i := 0) M7.tgt rfl
                      have t1 := cell_of (i := 1) M7.tgt rfl
                      have t2 := cell_of (i := 2) M7.tgt rfl
                      have e7' : v1 = .slice a1 cu c1 := by rw [e7, hlt]; simp
                      subst e7'
                      obtain ⟨a2, c2, w8, happ2, O8, hc8, hn8⟩ := O7.app (m := cu) (g := w7.heap.size) (Nat.le_trans HMR.out.size b7.size) hlt.symm rfl (by omega) pq
                      unfold atC at happ2
                      have b8 : Below wr.heap.size wr w8 := b7.trans (hc8.below (fun x hx => by
                        rcases hn7 x (mem_own hx) with h | h
                        · cases h
                        · exact h) b7.size)
                      have hl8 : ((atsUpto L j).take cu ++ [pq]).length = cu + 1 := by rw [List.length_append, hlt]; rfl
                      obtain ⟨v3, w9, happ3, O9, hc9, ⟨a3, c3, e9⟩, hn9⟩ := O8.src (b := g2) (off := 0) (m := 0) (c := 0) (r := (atsUpto L j).drop cu) (Nat.le_trans HMR.out.size b8.size) (by rw [List.length_drop, ← HOM.out]; omega) (fun hne => absurd rfl hne) (by rw [hl8, List.length_drop, ← HOM.out]; omega)
                      have e9' : v3 = .slice a3 (m + 1) c3 := by rw [e9, hl8, List.length_drop, ← HOM.out, show cu + 1 + (m - cu) = m + 1 by omega]
                      subst e9'
                      have b9 : Below w.heap.size w w9 := (HMR.out.trans (b8.mono HMR.out.size)).trans (hc9.below (fun x hx => (O8.low x (mem_own hx)).1) (Nat.le_trans HMR.out.size b8.size))
                      have RR := hid (show AwRel w L (.slice a3 (m + 1) c3) (.int .i64 ((j : Int) + 1)) w9 from ⟨j + 1, by simp, by rw [← HN.out]; omega, by omega, by
                        rw [HNX.out]
                        unfold insP
                        rw [if_neg HPN.out, ← HPQ.out]
                        unfold putP
                        rw [← HCU2.out]
                        have := O9
                        rwa [List.append_assoc, List.singleton_append] at this, b9⟩)
                      clear O7 hc7 hn7 b7 M7 hlt O8 hc8 hn8 b8 hl8 O9 hc9 hn9 b9 e7 e9 hb2
                      have tok1 : True := trivial
                      have tok2 : True := trivial
                      go_wp2_with (at_builtin; first | (have _t := tok1; refine wpList_append_run rfl _ _ _ rfl _ _ rfl rfl happ1 ?_; clear tok1 _t) | (have _t := tok2; refine wpList_append_run rfl _ _ _ rfl _ _ rfl rfl happ2 ?_; clear tok2 _t) | refine wpList_append_run rfl _ _ _ rfl _ _ rfl rfl happ3 ?_)
                      go_roundw
                      case rel => exact RR.out
                      case measure => simp [RowKit.intOf]; omega
                    · have hlt : ((atsUpto L j).take cu).length = cu := by rw [List.length_take, ← HOM.out]; omega
                      obtain ⟨v1, w7, happ1, O7, hc7, ⟨a1, c1, e7⟩, hn7⟩ := (AtsOwn.nil wr w.heap.size).src (b := g2) (off := 0) (m := cu) (c := oc) (r := (atsUpto L j).take cu) HMR.out.size (by rw [List.length_take, ← HOM.out]; omega) (fun _ => (HOR.out.read).take hcu1) (by rw [hlt]; show 0 + cu ≤ 1000000; omega)
                      rw [List.nil_append] at O7
                      have b7 : Below wr.heap.size wr w7 := hc7.nil_below
                      have M7 := HM.out.keep b7
                      have t0 := cell_of (i := 0) M7.tgt rfl
                      have t1 := cell_of (i := 1) M7.tgt rfl
                      have t2 := cell_of (i := 2) M7.tgt rfl
                      have e7' : v1 = .slice a1 cu c1 := by rw [e7, hlt]; simp
                      subst e7'
                      obtain ⟨a2, c2, w8, happ2, O8, hc8, hn8⟩ := O7.app (m := cu) (g := w7.heap.size) (Nat.le_trans HMR.out.size b7.size) hlt.symm rfl (by omega) pq
                      unfold atC at happ2
                      have b8 : Below wr.heap.size wr w8 := b7.trans (hc8.below (fun x hx => by
                        rcases hn7 x (mem_own hx) with h | h
                        · cases h
                        · exact h) b7.size)
                      have hl8 : ((atsUpto L j).take cu ++ [pq]).length = cu + 1 := by rw [List.length_append, hlt]; rfl
                      obtain ⟨v3, w9, happ3, O9, hc9, ⟨a3, c3, e9⟩, hn9⟩ := O8.src (b := g2) (off := cu * 3) (m := m - cu) (c := oc - cu) (r := (atsUpto L j).drop cu) (Nat.le_trans HMR.out.size b8.size) (by rw [List.length_drop, ← HOM.out]) (fun hne => ((HOR.out.below b8).read).drop hcu1) (by rw [hl8, List.length_drop, ← HOM.out]; omega)
                      have e9' : v3 = .slice a3 (m + 1) c3 := by rw [e9, hl8, List.length_drop, ← HOM.out, show cu + 1 + (m - cu) = m + 1 by omega]
                      subst e9'
                      have b9 : Below w.heap.size w w9 := (HMR.out.trans (b8.mono HMR.out.size)).trans (hc9.below (fun x hx => (O8.low x (mem_own hx)).1) (Nat.le_trans HMR.out.size b8.size))
                      have RR := hid (show AwRel w L (.slice a3 (m + 1) c3) (.int .i64 ((j : Int) + 1)) w9 from ⟨j + 1, by simp, by rw [← HN.out]; omega, by omega, by
                        rw [HNX.out]
                        unfold insP
                        rw [if_neg HPN.out, ← HPQ.out]
                        unfold putP
                        rw [← HCU2.out]
                        have := O9
                        rwa [List.append_assoc, List.singleton_append] at this, b9⟩)
                      clear O7 hc7 hn7 b7 M7 hlt O8 hc8 hn8 b8 hl8 O9 hc9 hn9 b9 e7 e9 hb2
                      have tok1 : True := trivial
                      have tok2 : True := trivial
                      go_wp2_with (at_builtin; first | (have _t := tok1; refine wpList_append_run rfl _ _ _ rfl _ _ rfl rfl happ1 ?_; clear tok1 _t) | (have _t := tok2; refine wpList_append_run rfl _ _ _ rfl _ _ rfl rfl happ2 ?_; clear tok2 _t) | refine wpList_append_run rfl _ _ _ rfl _ _ rfl rfl happ3 ?_)
                      go_roundw
                      case rel => exact RR.out
                      case measure => simp [RowKit.intOf]; omega
                · have HIN := hid (show atsUpto L (j + 1) = atsUpto L j by rw [HNX.out]; unfold insP; rw [if_pos]; rw [← HPQ.out]; exact of_decide_eq_true HTB2.out.symm)
                  go_wp2_with fail
                  go_roundw
                  case rel => exact ⟨j + 1, by simp, by rw [← HN.out]; omega, by omega, by rw [HIN.out]; exact HOR.out, HMR.out⟩
                  case measure => simp [RowKit.intOf]; omega

          · have ht : (pk p.2.1 17 == 16) = false := by rw [beq_eq_false_iff_ne]; exact h17
            have HRAW := hid (show rawP p = (q0, q1, q2) by rw [HQ0.out, HQ1.out, HQ2.out]; exact if_neg h17)
            clear h17
            go_wp2_with fail
            have G5 := HG4.out
            have B5 := HB4.out
            obtain ⟨w6, rfl⟩ : ∃ w6, w6 = w4 := ⟨_, rfl⟩
            clear e1 e2 f1 f2 k1''
            obtain ⟨pq, hpq⟩ : ∃ pq, pq = rawP p := ⟨_, rfl⟩
            have G6 : w6.heap[g]? = some (.cells #[.int .i64 pq.1, .int .i64 pq.2.1, .int .i64 pq.2.2] 38 (0, 0)) := by rw [hpq, HRAW.out]; exact G5
            have HPQ := hid hpq
            have O6 := HO.out.below B5
            obtain ⟨oa', oc', ob, off, eo, hol, hov⟩ := O6.read.view
            have hoa : oa' = oa := by injection eo with h1 h2 h3; exact h1.symm
            obtain rfl := hoa
            have hom12 : om ≤ 12 := by rw [HOM.out]; exact Nat.le_trans (atsUpto_ok L j).few hj12
            have HOV := hid hov
            have HRI := hid (atsUpto_ok L j).rising
            have HW6 := hid (show AiM w6 pq g w6 from ⟨G6, Below.refl _ _⟩)
            have HO6 := hid O6
            have HB6 := hid (HB.out.trans (B5.mono HB.out.size))
            clear G5 G6 B5 O6 hov eo hpq hol HRAW HB4 HG4 HO HB HG
            go_loopw [6, 7, 8] (fun a t k wr => AiRel w6 (atsUpto L j) pq g a t k wr) (fun _ _ k _ => om - (RowKit.intOf k).toNat)
            case atStart => exact ⟨0, rfl, by omega, rfl, rfl, HW6.out⟩
            case round =>
              obtain ⟨m, rfl, hm, rfl, rfl, hM⟩ := hrel
              rw [← HOM.out] at hm
              obtain ⟨cu, hcu⟩ : ∃ cu, cu = cutP pq ((atsUpto L j).take m) := ⟨_, rfl⟩
              obtain ⟨tb, htb⟩ : ∃ tb, tb = decide (pq ∈ (atsUpto L j).take m) := ⟨_, rfl⟩
              rw [← hcu, ← htb]
              have HCU := hid hcu
              have HTB := hid htb
              have HM := hid hM
              clear hcu htb hM HW6
              by_cases hmo : m < om
              · obtain ⟨q, hq⟩ : ∃ q, (atsUpto L j)[m]? = some q := ⟨_, List.getElem?_eq_getElem (by rw [← HOM.out]; omega)⟩
                obtain ⟨rfl, y0, y1, y2⟩ := HOV.out m q hq
                have HC := hid ((HM.out.cls y0 y1 y2).keep (Below.refl _ wr).drew)
                have HCR := hid (cutP_round (p := pq) HRI.out hq)
                have hx1 : ((m : Int) < (om : Int)) = True := by rw [eq_iff_iff, iff_true]; omega
                have hx2 : m < om := by omega
                have hmem : (pq ∈ (atsUpto L j).take (m + 1)) ↔ (pq ∈ (atsUpto L j).take m ∨ pq = q) := by
                  obtain ⟨hk', ek⟩ := List.getElem?_eq_some_iff.1 hq
                  rw [List.take_succ_eq_append_getElem hk', ek, List.mem_append, List.mem_singleton]
                have HMEM := hid hmem
                have hq' := hq
                clear y0 y1 y2 hq hmem
                have HSQ := hid (small_two ((atsUpto_ok L j).two q (List.mem_of_getElem? hq')))
                have HSP := hid (show SmallAt pq by rw [HPQ.out]; exact small_two (rawP_in p))
                clear hq'
                by_cases ha : aheadP q pq
                · have he : q ≠ pq := ha.ne
                  cases tb
                  · have HA2 := hid (fun w => show Calls Tryz.prog 31 #[.agg #[.int .i64 q.1, .int .i64 q.2.1, .int .i64 q.2.2], .agg #[.int .i64 pq.1, .int .i64 pq.2.1, .int .i64 pq.2.2]] w fun e w' => e = .returned (.bool true) ∧ Below w.heap.size w w' by have := ahead_any q pq w; rwa [decide_eq_true ha] at this)
                    have HC2 := hid (show cutP pq ((atsUpto L j).take (m + 1)) = m + 1 by rw [HCR.out, if_pos ha])
                    have HT2 := hid (show decide (pq ∈ (atsUpto L j).take (m + 1)) = false from decide_eq_false (fun h => by rcases HMEM.out.1 h with h | h; exact of_decide_eq_false HTB.out.symm h; exact he h.symm))
                    have heq := fun w => eq_at q pq HSQ.out HSP.out w
                    rw [decide_eq_false he] at heq
                    unfold atV at heq
                    clear ha he
                    go_wp2_with fail
                    go_region_held (fun y => (y.cell? ⟨ob, off + m * 3, none⟩ = some (.int .i64 q.1) ∧ y.cell? ⟨ob, off + m * 3 + 1, none⟩ = some (.int .i64 q.2.1) ∧ y.cell? ⟨ob, off + m * 3 + 2, none⟩ = some (.int .i64 q.2.2)) ∧ (y.cell? ⟨g, 0, none⟩ = some (.int .i64 pq.1) ∧ y.cell? ⟨g, 1, none⟩ = some (.int .i64 pq.2.1) ∧ y.cell? ⟨g, 2, none⟩ = some (.int .i64 pq.2.2)) ∧ AiM w6 pq g y) (first | exact HC.out | (refine AiC.keep ?_ ‹Below _ _ _›; assumption)) (first | (go_at_call 31; refine (HA2.out _).mono ?_; rintro e w3 ⟨rfl, b3⟩))
                    have HM3 := hid (show AiM w6 pq g w3 by apply ai_of; assumption)
                    obtain ⟨⟨y0, y1, y2⟩, ⟨y3, y4, y5⟩, -⟩ : AiC w6 pq q g ob (off + m * 3) w3 := by assumption
                    clear HC HCR HA2 b3
                    go_wp2_with fail
                    go_quiet (fail)
                    clear y0 y1 y2 y3 y4 y5
                    go_wp2_with fail
                    go_roundw
                    case rel => exact ⟨m + 1, by simp, by rw [← HOM.out]; omega, by rw [HC2.out]; rfl, by rw [HT2.out], ⟨HM3.out.tgt, below_drewN HM3.out.low _⟩⟩
                    case measure => simp [RowKit.intOf]; omega
                  · clear he
                    have HA2 := hid (fun w => show Calls Tryz.prog 31 #[.agg #[.int .i64 q.1, .int .i64 q.2.1, .int .i64 q.2.2], .agg #[.int .i64 pq.1, .int .i64 pq.2.1, .int .i64 pq.2.2]] w fun e w' => e = .returned (.bool true) ∧ Below w.heap.size w w' by have := ahead_any q pq w; rwa [decide_eq_true ha] at this)
                    have HC2 := hid (show cutP pq ((atsUpto L j).take (m + 1)) = m + 1 by rw [HCR.out, if_pos ha])
                    have HT2 := hid (show decide (pq ∈ (atsUpto L j).take (m + 1)) = true from decide_eq_true (HMEM.out.2 (.inl (of_decide_eq_true HTB.out.symm))))
                    clear ha
                    go_wp2_with fail
                    go_region_held (fun y => (y.cell? ⟨ob, off + m * 3, none⟩ = some (.int .i64 q.1) ∧ y.cell? ⟨ob, off + m * 3 + 1, none⟩ = some (.int .i64 q.2.1) ∧ y.cell? ⟨ob, off + m * 3 + 2, none⟩ = some (.int .i64 q.2.2)) ∧ (y.cell? ⟨g, 0, none⟩ = some (.int .i64 pq.1) ∧ y.cell? ⟨g, 1, none⟩ = some (.int .i64 pq.2.1) ∧ y.cell? ⟨g, 2, none⟩ = some (.int .i64 pq.2.2)) ∧ AiM w6 pq g y) (first | exact HC.out | (refine AiC.keep ?_ ‹Below _ _ _›; assumption)) (first | (go_at_call 31; refine (HA2.out _).mono ?_; rintro e w3 ⟨rfl, b3⟩))
                    have HM3 := hid (show AiM w6 pq g w3 by apply ai_of; assumption)
                    obtain ⟨⟨y0, y1, y2⟩, ⟨y3, y4, y5⟩, -⟩ : AiC w6 pq q g ob (off + m * 3) w3 := by assumption
                    clear HC HCR HA2 b3
                    go_wp2_with fail
                    go_quiet (fail)
                    clear y0 y1 y2 y3 y4 y5
                    go_wp2_with fail
                    go_roundw
                    case rel => exact ⟨m + 1, by simp, by rw [← HOM.out]; omega, by rw [HC2.out]; rfl, by rw [HT2.out], ⟨HM3.out.tgt, below_drewN HM3.out.low _⟩⟩
                    case measure => simp [RowKit.intOf]; omega
                · cases tb
                  · by_cases he : q = pq
                    · have HA2 := hid (fun w => show Calls Tryz.prog 31 #[.agg #[.int .i64 q.1, .int .i64 q.2.1, .int .i64 q.2.2], .agg #[.int .i64 pq.1, .int .i64 pq.2.1, .int .i64 pq.2.2]] w fun e w' => e = .returned (.bool false) ∧ Below w.heap.size w w' by have := ahead_any q pq w; rwa [decide_eq_false ha] at this)
                      have HC2 := hid (show cutP pq ((atsUpto L j).take (m + 1)) = cu by rw [HCR.out, if_neg ha, HCU.out])
                      have HT2 := hid (show decide (pq ∈ (atsUpto L j).take (m + 1)) = true from decide_eq_true (HMEM.out.2 (.inr he.symm)))
                      have heq := fun w => eq_at q pq HSQ.out HSP.out w
                      rw [decide_eq_true he] at heq
                      unfold atV at heq
                      clear ha he
                      go_wp2_with fail
                      go_region_held (fun y => (y.cell? ⟨ob, off + m * 3, none⟩ = some (.int .i64 q.1) ∧ y.cell? ⟨ob, off + m * 3 + 1, none⟩ = some (.int .i64 q.2.1) ∧ y.cell? ⟨ob, off + m * 3 + 2, none⟩ = some (.int .i64 q.2.2)) ∧ (y.cell? ⟨g, 0, none⟩ = some (.int .i64 pq.1) ∧ y.cell? ⟨g, 1, none⟩ = some (.int .i64 pq.2.1) ∧ y.cell? ⟨g, 2, none⟩ = some (.int .i64 pq.2.2)) ∧ AiM w6 pq g y) (first | exact HC.out | (refine AiC.keep ?_ ‹Below _ _ _›; assumption)) (first | (go_at_call 31; refine (HA2.out _).mono ?_; rintro e w3 ⟨rfl, b3⟩))
                      have HM3 := hid (show AiM w6 pq g w3 by apply ai_of; assumption)
                      obtain ⟨⟨y0, y1, y2⟩, ⟨y3, y4, y5⟩, -⟩ : AiC w6 pq q g ob (off + m * 3) w3 := by assumption
                      clear HC HCR HA2 b3
                      go_wp2_with fail
                      go_quiet (fail)
                      clear y0 y1 y2 y3 y4 y5
                      go_wp2_with fail
                      go_roundw
                      case rel => exact ⟨m + 1, by simp, by rw [← HOM.out]; omega, by rw [HC2.out], by rw [HT2.out], ⟨HM3.out.tgt, below_drewN HM3.out.low _⟩⟩
                      case measure => simp [RowKit.intOf]; omega
                    · have HA2 := hid (fun w => show Calls Tryz.prog 31 #[.agg #[.int .i64 q.1, .int .i64 q.2.1, .int .i64 q.2.2], .agg #[.int .i64 pq.1, .int .i64 pq.2.1, .int .i64 pq.2.2]] w fun e w' => e = .returned (.bool false) ∧ Below w.heap.size w w' by have := ahead_any q pq w; rwa [decide_eq_false ha] at this)
                      have HC2 := hid (show cutP pq ((atsUpto L j).take (m + 1)) = cu by rw [HCR.out, if_neg ha, HCU.out])
                      have HT2 := hid (show decide (pq ∈ (atsUpto L j).take (m + 1)) = false from decide_eq_false (fun h => by rcases HMEM.out.1 h with h | h; exact of_decide_eq_false HTB.out.symm h; exact he h.symm))
                      have heq := fun w => eq_at q pq HSQ.out HSP.out w
                      rw [decide_eq_false he] at heq
                      unfold atV at heq
                      clear ha he
                      go_wp2_with fail
                      go_region_held (fun y => (y.cell? ⟨ob, off + m * 3, none⟩ = some (.int .i64 q.1) ∧ y.cell? ⟨ob, off + m * 3 + 1, none⟩ = some (.int .i64 q.2.1) ∧ y.cell? ⟨ob, off + m * 3 + 2, none⟩ = some (.int .i64 q.2.2)) ∧ (y.cell? ⟨g, 0, none⟩ = some (.int .i64 pq.1) ∧ y.cell? ⟨g, 1, none⟩ = some (.int .i64 pq.2.1) ∧ y.cell? ⟨g, 2, none⟩ = some (.int .i64 pq.2.2)) ∧ AiM w6 pq g y) (first | exact HC.out | (refine AiC.keep ?_ ‹Below _ _ _›; assumption)) (first | (go_at_call 31; refine (HA2.out _).mono ?_; rintro e w3 ⟨rfl, b3⟩))
                      have HM3 := hid (show AiM w6 pq g w3 by apply ai_of; assumption)
                      obtain ⟨⟨y0, y1, y2⟩, ⟨y3, y4, y5⟩, -⟩ : AiC w6 pq q g ob (off + m * 3) w3 := by assumption
                      clear HC HCR HA2 b3
                      go_wp2_with fail
                      go_quiet (fail)
                      clear y0 y1 y2 y3 y4 y5
                      go_wp2_with fail
                      go_roundw
                      case rel => exact ⟨m + 1, by simp, by rw [← HOM.out]; omega, by rw [HC2.out], by rw [HT2.out], ⟨HM3.out.tgt, below_drewN HM3.out.low _⟩⟩
                      case measure => simp [RowKit.intOf]; omega
                  · have HA2 := hid (fun w => show Calls Tryz.prog 31 #[.agg #[.int .i64 q.1, .int .i64 q.2.1, .int .i64 q.2.2], .agg #[.int .i64 pq.1, .int .i64 pq.2.1, .int .i64 pq.2.2]] w fun e w' => e = .returned (.bool false) ∧ Below w.heap.size w w' by have := ahead_any q pq w; rwa [decide_eq_false ha] at this)
                    have HC2 := hid (show cutP pq ((atsUpto L j).take (m + 1)) = cu by rw [HCR.out, if_neg ha, HCU.out])
                    have HT2 := hid (show decide (pq ∈ (atsUpto L j).take (m + 1)) = true from decide_eq_true (HMEM.out.2 (.inl (of_decide_eq_true HTB.out.symm))))
                    clear ha
                    go_wp2_with fail
                    go_region_held (fun y => (y.cell? ⟨ob, off + m * 3, none⟩ = some (.int .i64 q.1) ∧ y.cell? ⟨ob, off + m * 3 + 1, none⟩ = some (.int .i64 q.2.1) ∧ y.cell? ⟨ob, off + m * 3 + 2, none⟩ = some (.int .i64 q.2.2)) ∧ (y.cell? ⟨g, 0, none⟩ = some (.int .i64 pq.1) ∧ y.cell? ⟨g, 1, none⟩ = some (.int .i64 pq.2.1) ∧ y.cell? ⟨g, 2, none⟩ = some (.int .i64 pq.2.2)) ∧ AiM w6 pq g y) (first | exact HC.out | (refine AiC.keep ?_ ‹Below _ _ _›; assumption)) (first | (go_at_call 31; refine (HA2.out _).mono ?_; rintro e w3 ⟨rfl, b3⟩))
                    have HM3 := hid (show AiM w6 pq g w3 by apply ai_of; assumption)
                    obtain ⟨⟨y0, y1, y2⟩, ⟨y3, y4, y5⟩, -⟩ : AiC w6 pq q g ob (off + m * 3) w3 := by assumption
                    clear HC HCR HA2 b3
                    go_wp2_with fail
                    go_quiet (fail)
                    clear y0 y1 y2 y3 y4 y5
                    go_wp2_with fail
                    go_roundw
                    case rel => exact ⟨m + 1, by simp, by rw [← HOM.out]; omega, by rw [HC2.out], by rw [HT2.out], ⟨HM3.out.tgt, below_drewN HM3.out.low _⟩⟩
                    case measure => simp [RowKit.intOf]; omega
              · obtain rfl : m = om := by omega
                have HCU2 := hid (show cu = cutP pq (atsUpto L j) by rw [HCU.out, HOM.out, List.take_length])
                have HTB2 := hid (show tb = decide (pq ∈ atsUpto L j) by rw [HTB.out]; congr 1; rw [HOM.out, List.take_length])
                have HNX := hid (atsUpto_next HP.out)
                have HMR := hid (show Below w.heap.size w wr from HB6.out.trans (HM.out.low.mono HB6.out.size))
                have HOR := hid (HO6.out.below HM.out.low)
                cases tb
                · have HPN := hid (show rawP p ∉ atsUpto L j by rw [← HPQ.out]; exact of_decide_eq_false HTB2.out.symm)
                  rcases HOR.out.2 with ⟨hnil, hz⟩ | ⟨g2, cap, cur, hsl, hb2, hh2, hc1, hc2, -⟩
                  · injection hnil with hn1 hn2 hn3
                    subst hn1 hn3
                    have hO0 : atsUpto L j = [] := List.length_eq_zero_iff.1 (by rw [← HOM.out]; exact hn2)
                    have hcu0 : cu = 0 := by rw [HCU2.out, hO0]; rfl
                    obtain ⟨i0, hi, hz0, hz1, hz2⟩ := info_parts ats_info
                    have happ1 := run_append_owned_none (P := Tryz.prog) wr w.heap.size 22 22 38 i0 3 Tryz.underlying22 hi (.slice none 0 0) 0 [] (AtsOwn.nil wr w.heap.size)
                    obtain ⟨a2, c2, w8, happ2, O8, hc8, hn8⟩ := (AtsOwn.nil wr w.heap.size).app (m := 0) (g := wr.heap.size) HMR.out.size rfl rfl (by omega) pq
                    unfold atC at happ2
                    have b8 : Below wr.heap.size wr w8 := hc8.nil_below
                    have happ3 := run_append_owned_none (P := Tryz.prog) w8 w.heap.size 22 22 38 i0 3 Tryz.underlying22 hi _ _ _ O8
                    have RR := hid (show AwRel w L (.slice a2 (0 + 1) c2) (.int .i64 ((j : Int) + 1)) w8 from ⟨j + 1, by simp, by rw [← HN.out]; omega, by omega, by
                      rw [HNX.out]
                      unfold insP
                      rw [if_neg HPN.out, ← HPQ.out]
                      unfold putP
                      rw [hO0]
                      exact O8, HMR.out.trans (b8.mono HMR.out.size)⟩)
                    have t0 := cell_of (i := 0) HM.out.tgt rfl
                    have t1 := cell_of (i := 1) HM.out.tgt rfl
                    have t2 := cell_of (i := 2) HM.out.tgt rfl
                    subst hn2 hcu0
                    clear O8 hc8 hn8 b8 hO0 hz hi hz0 hz1 hz2
                    have tok1 : True := trivial
                    have tok2 : True := trivial
                    go_wp2_with (at_builtin; first | (have _t := tok1; refine wpList_append_run rfl _ _ _ rfl _ _ rfl rfl happ1 ?_; clear tok1 _t) | (have _t := tok2; refine wpList_append_run rfl _ _ _ rfl _ _ rfl rfl happ2 ?_; clear tok2 _t) | refine wpList_append_run rfl _ _ _ rfl _ _ rfl rfl happ3 ?_)
                    go_roundw
                    case rel => exact RR.out
                    case measure => simp [RowKit.intOf]; omega
                  · injection hsl with hn1 hn2 hn3
                    subst hn1 hn3
                    have hmc : m ≤ oc := by rw [hn2]; exact hc1
                    clear hh2 hn2 hc1
                    have hcu1 : cu ≤ m := by rw [HCU2.out, HOM.out]; exact cutP_le _ _
                    by_cases hcc : oc = cu
                    · have hcc' := hcc.symm
                      clear hcc
                      subst hcc'
                      have hlt : ((atsUpto L j).take cu).length = cu := by rw [List.length_take, ← HOM.out]; omega
                      obtain ⟨v1, w7, happ1, O7, hc7, ⟨a1, c1, e7⟩, hn7⟩ := (AtsOwn.nil wr w.heap.size).src (b := g2) (off := 0) (m := cu) (c := cu) (r := (atsUpto L j).take cu) HMR.out.size (by rw [List.length_take, ← HOM.out]; omega) (fun _ => (HOR.out.read).take hcu1) (by rw [hlt]; show 0 + cu ≤ 1000000; omega)
                      rw [List.nil_append] at O7
                      have b7 : Below wr.heap.size wr w7 := hc7.nil_below
                      have M7 := HM.out.keep b7
                      have t0 := cell_of (i := 0) M7.tgt rfl
                      have t1 := cell_of (i := 1) M7.tgt rfl
                      have t2 := cell_of (i := 2) M7.tgt rfl
                      have e7' : v1 = .slice a1 cu c1 := by rw [e7, hlt]; simp
                      subst e7'
                      obtain ⟨a2, c2, w8, happ2, O8, hc8, hn8⟩ := O7.app (m := cu) (g := w7.heap.size) (Nat.le_trans HMR.out.size b7.size) hlt.symm rfl (by omega) pq
                      unfold atC at happ2
                      have b8 : Below wr.heap.size wr w8 := b7.trans (hc8.below (fun x hx => by
                        rcases hn7 x (mem_own hx) with h | h
                        · cases h
                        · exact h) b7.size)
                      have hl8 : ((atsUpto L j).take cu ++ [pq]).length = cu + 1 := by rw [List.length_append, hlt]; rfl
                      obtain ⟨v3, w9, happ3, O9, hc9, ⟨a3, c3, e9⟩, hn9⟩ := O8.src (b := g2) (off := 0) (m := 0) (c := 0) (r := (atsUpto L j).drop cu) (Nat.le_trans HMR.out.size b8.size) (by rw [List.length_drop, ← HOM.out]; omega) (fun hne => absurd rfl hne) (by rw [hl8, List.length_drop, ← HOM.out]; omega)
                      have e9' : v3 = .slice a3 (m + 1) c3 := by rw [e9, hl8, List.length_drop, ← HOM.out, show cu + 1 + (m - cu) = m + 1 by omega]
                      subst e9'
                      have b9 : Below w.heap.size w w9 := (HMR.out.trans (b8.mono HMR.out.size)).trans (hc9.below (fun x hx => (O8.low x (mem_own hx)).1) (Nat.le_trans HMR.out.size b8.size))
                      have RR := hid (show AwRel w L (.slice a3 (m + 1) c3) (.int .i64 ((j : Int) + 1)) w9 from ⟨j + 1, by simp, by rw [← HN.out]; omega, by omega, by
                        rw [HNX.out]
                        unfold insP
                        rw [if_neg HPN.out, ← HPQ.out]
                        unfold putP
                        rw [← HCU2.out]
                        have := O9
                        rwa [List.append_assoc, List.singleton_append] at this, b9⟩)
                      clear O7 hc7 hn7 b7 M7 hlt O8 hc8 hn8 b8 hl8 O9 hc9 hn9 b9 e7 e9 hb2
                      have tok1 : True := trivial
                      have tok2 : True := trivial
                      go_wp2_with (at_builtin; first | (have _t := tok1; refine wpList_append_run rfl _ _ _ rfl _ _ rfl rfl happ1 ?_; clear tok1 _t) | (have _t := tok2; refine wpList_append_run rfl _ _ _ rfl _ _ rfl rfl happ2 ?_; clear tok2 _t) | refine wpList_append_run rfl _ _ _ rfl _ _ rfl rfl happ3 ?_)
                      go_roundw
                      case rel => exact RR.out
                      case measure => simp [RowKit.intOf]; omega
                    · have hlt : ((atsUpto L j).take cu).length = cu := by rw [List.length_take, ← HOM.out]; omega
                      obtain ⟨v1, w7, happ1, O7, hc7, ⟨a1, c1, e7⟩, hn7⟩ := (AtsOwn.nil wr w.heap.size).src (b := g2) (off := 0) (m := cu) (c := oc) (r := (atsUpto L j).take cu) HMR.out.size (by rw [List.length_take, ← HOM.out]; omega) (fun _ => (HOR.out.read).take hcu1) (by rw [hlt]; show 0 + cu ≤ 1000000; omega)
                      rw [List.nil_append] at O7
                      have b7 : Below wr.heap.size wr w7 := hc7.nil_below
                      have M7 := HM.out.keep b7
                      have t0 := cell_of (i := 0) M7.tgt rfl
                      have t1 := cell_of (i := 1) M7.tgt rfl
                      have t2 := cell_of (i := 2) M7.tgt rfl
                      have e7' : v1 = .slice a1 cu c1 := by rw [e7, hlt]; simp
                      subst e7'
                      obtain ⟨a2, c2, w8, happ2, O8, hc8, hn8⟩ := O7.app (m := cu) (g := w7.heap.size) (Nat.le_trans HMR.out.size b7.size) hlt.symm rfl (by omega) pq
                      unfold atC at happ2
                      have b8 : Below wr.heap.size wr w8 := b7.trans (hc8.below (fun x hx => by
                        rcases hn7 x (mem_own hx) with h | h
                        · cases h
                        · exact h) b7.size)
                      have hl8 : ((atsUpto L j).take cu ++ [pq]).length = cu + 1 := by rw [List.length_append, hlt]; rfl
                      obtain ⟨v3, w9, happ3, O9, hc9, ⟨a3, c3, e9⟩, hn9⟩ := O8.src (b := g2) (off := cu * 3) (m := m - cu) (c := oc - cu) (r := (atsUpto L j).drop cu) (Nat.le_trans HMR.out.size b8.size) (by rw [List.length_drop, ← HOM.out]) (fun hne => ((HOR.out.below b8).read).drop hcu1) (by rw [hl8, List.length_drop, ← HOM.out]; omega)
                      have e9' : v3 = .slice a3 (m + 1) c3 := by rw [e9, hl8, List.length_drop, ← HOM.out, show cu + 1 + (m - cu) = m + 1 by omega]
                      subst e9'
                      have b9 : Below w.heap.size w w9 := (HMR.out.trans (b8.mono HMR.out.size)).trans (hc9.below (fun x hx => (O8.low x (mem_own hx)).1) (Nat.le_trans HMR.out.size b8.size))
                      have RR := hid (show AwRel w L (.slice a3 (m + 1) c3) (.int .i64 ((j : Int) + 1)) w9 from ⟨j + 1, by simp, by rw [← HN.out]; omega, by omega, by
                        rw [HNX.out]
                        unfold insP
                        rw [if_neg HPN.out, ← HPQ.out]
                        unfold putP
                        rw [← HCU2.out]
                        have := O9
                        rwa [List.append_assoc, List.singleton_append] at this, b9⟩)
                      clear O7 hc7 hn7 b7 M7 hlt O8 hc8 hn8 b8 hl8 O9 hc9 hn9 b9 e7 e9 hb2
                      have tok1 : True := trivial
                      have tok2 : True := trivial
                      go_wp2_with (at_builtin; first | (have _t := tok1; refine wpList_append_run rfl _ _ _ rfl _ _ rfl rfl happ1 ?_; clear tok1 _t) | (have _t := tok2; refine wpList_append_run rfl _ _ _ rfl _ _ rfl rfl happ2 ?_; clear tok2 _t) | refine wpList_append_run rfl _ _ _ rfl _ _ rfl rfl happ3 ?_)
                      go_roundw
                      case rel => exact RR.out
                      case measure => simp [RowKit.intOf]; omega
                · have HIN := hid (show atsUpto L (j + 1) = atsUpto L j by rw [HNX.out]; unfold insP; rw [if_pos]; rw [← HPQ.out]; exact of_decide_eq_true HTB2.out.symm)
                  go_wp2_with fail
                  go_roundw
                  case rel => exact ⟨j + 1, by simp, by rw [← HN.out]; omega, by omega, by rw [HIN.out]; exact HOR.out, HMR.out⟩
                  case measure => simp [RowKit.intOf]; omega
      · have hd1 : decide ((j : Int) < (n : Int)) = true := decide_eq_true (by omega)
        have hd2 : decide ((j : Int) < 12) = false := decide_eq_false (by omega)
        have HE := hid (show atsUpto L j = atsOf L from atsOf_upto (.inr (by omega)) (by rw [← HN.out]; omega) hj12)
        have HRD := hid HO.out
        go_wp2_with fail
        go_ret
        exact ⟨⟨_, rfl, HE.out ▸ HRD.out⟩, HB.out⟩
    · have hd1 : decide ((j : Int) < (n : Int)) = false := decide_eq_false (by omega)
      have HE := hid (show atsUpto L j = atsOf L from atsOf_upto (.inl (by rw [← HN.out]; omega)) (by rw [← HN.out]; omega) hj12)
      have HRD := hid HO.out
      go_wp2_with fail
      go_ret
      exact ⟨⟨_, rfl, HE.out ▸ HRD.out⟩, HB.out⟩
end Go.Proofs.YthkjmplcmfabfaaGreatDoor
