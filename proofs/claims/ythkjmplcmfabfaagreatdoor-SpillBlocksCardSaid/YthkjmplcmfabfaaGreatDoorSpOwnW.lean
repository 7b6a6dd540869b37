/- Contract of the law's spills. No condition. -/
import Derived.Test.YthkjmplcmfabfaaGreatDoorSpBook
namespace Go.Proofs.YthkjmplcmfabfaaGreatDoor
open Go.RowKit Go.Lib

def pairC (n : Int × Int) : List Value := [.int .i64 n.1, .int .i64 n.2]
def PairsIn (w : World) (v : Value) (z : List (Int × Int)) : Prop := RowIn w 2 v (z.map pairC)
theorem PairsIn.below {w w' : World} {v : Value} {z : List (Int × Int)} (h : PairsIn w v z) (hb : Below w.heap.size w w') : PairsIn w' v z := RowIn.below h hb
theorem PairsIn.view {w : World} {v : Value} {z : List (Int × Int)} (h : PairsIn w v z) : ∃ ao c b off, v = .slice ao z.length c ∧ z.length ≤ 9223372036854775807 ∧ ∀ (j : Nat) (n : Int × Int), z[j]? = some n → ao = some ⟨b, off, none⟩ ∧
    w.cell? ⟨b, off + j * 2, none⟩ = some (.int .i64 n.1) ∧ w.cell? ⟨b, off + j * 2 + 1, none⟩ = some (.int .i64 n.2) := by
  obtain ⟨ao, c, b, off, h1, h2, h3⟩ := h
  refine ⟨ao, c, b, off, by simpa using h1, by simpa using h2, fun j n hn => ?_⟩
  have := h3 j (pairC n) (by simp [hn])
  exact ⟨this.1, this.2 0 _ rfl, this.2 1 _ rfl⟩
def SmallPair (n : Int × Int) : Prop := (-9223372036854775808 ≤ n.1 ∧ n.1 ≤ 9223372036854775807) ∧ (-9223372036854775808 ≤ n.2 ∧ n.2 ≤ 9223372036854775807)

def SwRel (w w1 : World) (A : List PAt) (z : List (Int × Int)) (o i : Value) (wr : World) : Prop :=
  ∃ j : Nat, i = .int .i64 (j : Int) ∧ j ≤ A.length ∧ SpsOwn wr w1.heap.size o (ownUpto A z j) ∧ Below w.heap.size w wr ∧ Below w1.heap.size w1 wr

set_option maxRecDepth 20000 in
set_option maxHeartbeats 4000000 in
theorem spills_any (w : World) (lv sv : Value) (L : List PAt) (z : List (Int × Int)) (hl : AtsIn w lv L) (hL : ∀ p, p ∈ L → SmallAt p) (hz : PairsIn w sv z) (hZ : ∀ n, n ∈ z → SmallPair n) :
    Calls Tryz.prog 6 #[lv, sv] w fun e w' => (∃ ov, e = .returned ov ∧ SpsIn w' ov (ownOf (atsOf L) z) ∧ Capped ov) ∧ Below w.heap.size w w' := by
  obtain ⟨A, hA⟩ : ∃ A, A = atsOf L := ⟨_, rfl⟩
  have HSA := hid (fun (y : World) (hb : Below w.heap.size w y) => by have := spillAts_any y lv L (hl.below hb) hL; rwa [← hA] at this)
  rw [← hA]
  have hok := atsOf_ok L
  rw [← hA] at hok
  have HOK := hid hok
  obtain ⟨la, ln, lc, rfl⟩ : ∃ a n c, lv = .slice a n c := by obtain ⟨a, c, _, _, e, _⟩ := hl.view; exact ⟨_, _, _, e⟩
  obtain ⟨za, zc, zb, zo, rfl, hzl, hzv⟩ := hz.view
  have HZV := hid hzv
  have HZS := hid hZ
  obtain ⟨zn, hzn⟩ : ∃ zn, zn = z.length := ⟨_, rfl⟩
  rw [← hzn] at hzl ⊢
  have HZN := hid hzn
  have HPK := hid (fun (c n : Int) (w : World) h1 h2 h3 h4 => pick_any c n w h1 h2 h3 h4)
  clear hl hL hA hok hz hZ hzv hzn
  go_enter Tryz.func6, Tryz.ntmps6
  go_wp2_with fail
  refine (HSA.out _ (Below.refl _ _)).mono ?_
  rintro e w1 ⟨⟨av, rfl, hav⟩, b1⟩
  obtain ⟨aa, ac, gb, go, rfl, hal, hav'⟩ := hav.read.view
  have HAV := hid hav'
  obtain ⟨an, han⟩ : ∃ an, an = A.length := ⟨_, rfl⟩
  rw [← han] at hal ⊢
  have han12 : an ≤ 12 := by rw [han]; exact HOK.out.few
  have HAN := hid han
  have HW1 := hid b1.size
  have R0 := hid (show SwRel w w1 A z (.slice none 0 0) (.int .i64 0) w1 from ⟨0, rfl, by omega, SpsOwn.nil _ _, b1, Below.refl _ _⟩)
  clear hav hav' han hal b1 HSA
  go_wp2_with fail
  go_loopw [5, 7] (fun o i wr => SwRel w w1 A z o i wr) (fun _ i _ => an - (RowKit.intOf i).toNat)
  case atStart => exact R0.out
  case round =>
    obtain ⟨i, rfl, hi, hO, hb, hb1⟩ := hrel
    rw [← HAN.out] at hi
    obtain ⟨oa, om, oc, rfl, hom⟩ := hO.view
    have HO := hid hO
    have HB := hid hb
    have HB1 := hid hb1
    have HOM := hid hom
    have hom12 : om ≤ 12 := by rw [hom]; have := ownUpto_length A z i; omega
    clear hO hb hb1 hom R0
    by_cases hin : i < an
    · have hd1 : decide ((i : Int) < (an : Int)) = true := decide_eq_true (by omega)
      by_cases hz0 : zn = 0
      · subst hz0
        have HE := hid (show ownUpto A z i = ownOf A z by
          have : z = [] := List.length_eq_zero_iff.1 HZN.out.symm
          rw [this]
          unfold ownOf
          rw [ownUpto_none, ownUpto_none])
        have HRD := hid HO.out.read
        go_wp2_with fail
        go_ret
        exact ⟨⟨_, rfl, HE.out ▸ HRD.out, ownsRow_capped HO.out⟩, HB.out⟩
      · have hzp : 0 < zn := by omega
        have hd2 : decide (0 < (zn : Int)) = true := decide_eq_true (by omega)
        obtain ⟨p, hp⟩ : ∃ p, A[i]? = some p := ⟨_, List.getElem?_eq_getElem (by rw [← HAN.out]; omega)⟩
        obtain ⟨r, hr⟩ : ∃ r, r = i % zn := ⟨_, rfl⟩
        have hrz : r < zn := by rw [hr]; exact Nat.mod_lt _ hzp
        obtain ⟨n, hn⟩ : ∃ n, z[r]? = some n := ⟨_, List.getElem?_eq_getElem (by rw [← HZN.out]; omega)⟩
        obtain ⟨rfl, y0, y1, y2⟩ := HAV.out i p hp
        obtain ⟨rfl, x0, x1⟩ := HZV.out r n hn
        have kz : ∀ {q : Addr} {u : Value}, w.cell? q = some u → wr.cell? q = some u := fun {q u} hc => (HB.out.cell (World.block_lt_of_cell? _ _ hc)).trans hc
        have ka : ∀ {q : Addr} {u : Value}, w1.cell? q = some u → wr.cell? q = some u := fun {q u} hc => (HB1.out.cell (World.block_lt_of_cell? _ _ hc)).trans hc
        have x0' := kz x0
        have x1' := kz x1
        have hsm := HZS.out n (List.mem_of_getElem? hn)
        unfold SmallPair at hsm
        obtain ⟨⟨s1, s2⟩, s3, s4⟩ := hsm
        obtain ⟨n0, hn0⟩ : ∃ n0, n0 = n.1 := ⟨_, rfl⟩
        obtain ⟨n1, hn1⟩ : ∃ n1, n1 = n.2 := ⟨_, rfl⟩
        rw [← hn0] at s1 s2 x0'
        rw [← hn1] at s3 s4 x1'
        have HNX := hid (ownUpto_next (z := z) hp (show z[i % z.length]? = some n by rw [← HZN.out, ← hr]; exact hn))
        have HNN := hid (show n = (n0, n1) by rw [hn0, hn1])
        have hmod : (i : Int) % (zn : Int) = (r : Int) := by rw [hr]; omega
        have HMOD := hid hmod
        have hap := (wr.alloc (.cells #[.int .i64 n0, .int .i64 n1] 59))
        have bA := (Below.refl wr.heap.size wr).alloc (Nat.le_refl _) (.cells #[.int .i64 n0, .int .i64 n1] 59)
        have gA := heap_alloc_new wr (.cells #[.int .i64 n0, .int .i64 n1] 59)
        have HA1 := hid (show _ ∧ _ from ⟨bA, gA⟩)
        have hya := hid (show _ ∧ _ ∧ _ from ⟨ka y0, ka y1, ka y2⟩)
        have HGB := hid (show gb < w1.heap.size from World.block_lt_of_cell? _ _ y0)
        clear y0 y1 y2 x0 x1 hr hn hp kz ka hn0 hn1 hap bA gA
        go_wp2_with fail
        refine (HPK.out _ _ _ (by omega) (by omega) (by omega) (by omega)).mono ?_
        rintro e w4 ⟨rfl, rfl⟩
        obtain ⟨q0, hq0⟩ : ∃ q0, q0 = pk n0 6 := ⟨_, rfl⟩
        obtain ⟨q1, hq1⟩ : ∃ q1, q1 = pk n1 5 := ⟨_, rfl⟩
        have z0 := pk_range n0 6 (by omega)
        have z1 := pk_range n1 5 (by omega)
        rw [← hq0] at z0 ⊢
        rw [← hq1] at z1
        obtain ⟨z01, z02⟩ := z0
        obtain ⟨z11, z12⟩ := z1
        have HQ0 := hid hq0
        have HQ1 := hid hq1
        obtain ⟨g, hg⟩ : ∃ g, g = wr.heap.size := ⟨_, rfl⟩
        have hA1 := HA1.out
        rw [← hg] at hA1 ⊢
        have HG := hid hg
        generalize World.alloc _ _ = w4 at hA1 ⊢
        obtain ⟨bA, gA⟩ := hA1
        rw [hg] at bA
        have c4 : ∀ {q : Addr} {u : Value}, wr.cell? q = some u → w4.cell? q = some u := fun {q u} hc => (bA.cell (World.block_lt_of_cell? _ _ hc)).trans hc
        have HSS := hid (show (w4.cell? ⟨gb, go + i * 3, none⟩ = some (.int .i64 p.1) ∧ w4.cell? ⟨gb, go + i * 3 + 1, none⟩ = some (.int .i64 p.2.1) ∧ w4.cell? ⟨gb, go + i * 3 + 2, none⟩ = some (.int .i64 p.2.2)) ∧ (w4.cell? ⟨g, 0, none⟩ = some (.int .i64 n0) ∧ w4.cell? ⟨g, 1, none⟩ = some (.int .i64 n1)) from ⟨⟨c4 hya.out.1, c4 hya.out.2.1, c4 hya.out.2.2⟩, cell_of gA rfl, cell_of gA rfl⟩)
        have HO4 := hid (HO.out.below bA)
        have HB4 := hid (HB.out.trans (bA.mono HB.out.size))
        have HB14 := hid (HB1.out.trans (bA.mono HB1.out.size))
        clear hq0 hq1 hg bA gA c4 x0' x1' HA1
        by_cases hq : 0 < q0
        · have hqt : (0 < q0) = True := by rw [eq_iff_iff, iff_true]; exact hq
          have HSP := hid (show spillOf p n = [(p, q0, 1 + q1)] by rw [HNN.out, HQ0.out, HQ1.out]; exact if_pos (by rw [← HQ0.out]; exact hq))
          have bD := (Below.refl w4.heap.size w4).drew
          obtain ⟨a2, c2, w5, happ, O5, hc5, hn5⟩ := (HO4.out.below bD).app (g := w4.heap.size) (Nat.le_trans HB14.out.size (Nat.le_refl _)) HOM.out rfl (by omega) (p, q0, 1 + q1)
          unfold spC at happ
          have happ1 : (Builtin.append_ #[32, 32] 32 #[.slice oa om oc, .slice (some ⟨w4.heap.size, 0, none⟩) 1 1]).run Tryz.prog (w4.alloc (.cells #[.int .i64 p.1, .int .i64 p.2.1, .int .i64 p.2.2, .int .i64 q0, .int .i64 (1 + q1)] 40)).drew = .ok (.slice a2 (om + 1) c2) w5 := happ
          have hlow := HO4.out.low
          have b5 : Below w4.heap.size w4 w5 ∨ True := .inr trivial
          have k5 : ∀ {q : Addr} {u : Value}, w4.cell? q = some u → (∀ g', (Value.slice oa om oc).ownBlock = some g' → q.block ≠ g') → w5.cell? q = some u := fun {q u} hc hne => hc5.cell (a := w4.drew) hc (fun hm => hne _ (mem_own' hm) rfl)
          have hgne : ∀ g', (Value.slice oa om oc).ownBlock = some g' → g ≠ g' := fun g' h => by have := (HO.out.low g' h).2; rw [HG.out]; omega
          have hbne : ∀ g', (Value.slice oa om oc).ownBlock = some g' → gb ≠ g' := fun g' h => by
            have h1 := (hlow g' h).1
            have h2 := HGB.out
            omega
          have hs := HSS.out
          have HSW := hid (show (w5.cell? ⟨gb, go + i * 3, none⟩ = some (.int .i64 p.1) ∧ w5.cell? ⟨gb, go + i * 3 + 1, none⟩ = some (.int .i64 p.2.1) ∧ w5.cell? ⟨gb, go + i * 3 + 2, none⟩ = some (.int .i64 p.2.2)) ∧ (w5.cell? ⟨g, 0, none⟩ = some (.int .i64 n0) ∧ w5.cell? ⟨g, 1, none⟩ = some (.int .i64 n1)) from ⟨⟨k5 hs.1.1 hbne, k5 hs.1.2.1 hbne, k5 hs.1.2.2 hbne⟩, k5 hs.2.1 hgne, k5 hs.2.2 hgne⟩)
          have bS := (Below.refl w4.heap.size w4).alloc (Nat.le_refl _) (.cells #[.int .i64 p.1, .int .i64 p.2.1, .int .i64 p.2.2, .int .i64 q0, .int .i64 (1 + q1)] 40)
          have kS : ∀ {q : Addr} {u : Value}, w4.cell? q = some u → (w4.alloc (.cells #[.int .i64 p.1, .int .i64 p.2.1, .int .i64 p.2.2, .int .i64 q0, .int .i64 (1 + q1)] 40)).cell? q = some u := fun {q u} hc => (bS.cell (World.block_lt_of_cell? _ _ hc)).trans hc
          have HSA := hid (show ((w4.alloc (.cells #[.int .i64 p.1, .int .i64 p.2.1, .int .i64 p.2.2, .int .i64 q0, .int .i64 (1 + q1)] 40)).cell? ⟨gb, go + i * 3, none⟩ = some (.int .i64 p.1) ∧ (w4.alloc (.cells #[.int .i64 p.1, .int .i64 p.2.1, .int .i64 p.2.2, .int .i64 q0, .int .i64 (1 + q1)] 40)).cell? ⟨gb, go + i * 3 + 1, none⟩ = some (.int .i64 p.2.1) ∧ (w4.alloc (.cells #[.int .i64 p.1, .int .i64 p.2.1, .int .i64 p.2.2, .int .i64 q0, .int .i64 (1 + q1)] 40)).cell? ⟨gb, go + i * 3 + 2, none⟩ = some (.int .i64 p.2.2)) ∧ ((w4.alloc (.cells #[.int .i64 p.1, .int .i64 p.2.1, .int .i64 p.2.2, .int .i64 q0, .int .i64 (1 + q1)] 40)).cell? ⟨g, 0, none⟩ = some (.int .i64 n0) ∧ (w4.alloc (.cells #[.int .i64 p.1, .int .i64 p.2.1, .int .i64 p.2.2, .int .i64 q0, .int .i64 (1 + q1)] 40)).cell? ⟨g, 1, none⟩ = some (.int .i64 n1)) from ⟨⟨kS hs.1.1, kS hs.1.2.1, kS hs.1.2.2⟩, kS hs.2.1, kS hs.2.2⟩)
          have RR := hid (show SwRel w w1 A z (.slice a2 (om + 1) c2) (.int .i64 ((i : Int) + 1)) w5 from ⟨i + 1, by simp, by rw [← HAN.out]; omega, by rw [HNX.out, HSP.out]; exact O5, HB4.out.drew.trans (hc5.below (B := w.heap.size) (fun x hx => by have := (hlow x (mem_own' hx)).1; have := HW1.out; omega) HB4.out.size), HB14.out.drew.trans (hc5.below (B := w1.heap.size) (fun x hx => (hlow x (mem_own' hx)).1) HB14.out.size)⟩)
          have gw : IntKind.i64.wrap (1 + q1) = 1 + q1 := IntWalk.i64_in _ (by omega)
          clear happ O5 hc5 hn5 hlow b5 k5 hgne hbne hs bS kS bD hya hq
          go_wp2_with fail
          refine wp_region_held_drew (S := fun y => (y.cell? ⟨gb, go + i * 3, none⟩ = some (.int .i64 p.1) ∧ y.cell? ⟨gb, go + i * 3 + 1, none⟩ = some (.int .i64 p.2.1) ∧ y.cell? ⟨gb, go + i * 3 + 2, none⟩ = some (.int .i64 p.2.2)) ∧ (y.cell? ⟨g, 0, none⟩ = some (.int .i64 n0) ∧ y.cell? ⟨g, 1, none⟩ = some (.int .i64 n1))) (by kernel_rfl) HSS.out (fun hS => ?_)
          refine wpAnyH_take (i := 0) (oi := { dst := Option.some 33, op := Op.move (Operand.tmp 5), type := 32, pos := "law.go:66", after := #[], guard := Option.none }) (v := ?_) rfl (by kernel_rfl) (by kernel_rfl) (by kernel_rfl) (fun _ _ _ h => h) (Or.inl ⟨by rfl, ?_⟩) hS ?_
          rotate_left 1
          · rintro wx ⟨⟨s0, s1, s2⟩, s3, s4⟩
            (go_simp <;> (try with_reducible rfl))
          try simp only [Act.put, List.setIfInBounds_toArray, List.set_cons_zero, List.set_cons_succ]
          refine wpAnyH_take (i := 1) (oi := { dst := Option.some 34, op := Op.move (Operand.tmp 6), type := 22, pos := "law.go:66", after := #[], guard := Option.none }) (v := ?_) rfl (by kernel_rfl) (by kernel_rfl) (by kernel_rfl) (fun _ _ _ h => h) (Or.inl ⟨by rfl, ?_⟩) hS ?_
          rotate_left 1
          · rintro wx ⟨⟨s0, s1, s2⟩, s3, s4⟩
            (go_simp <;> (try with_reducible rfl))
          try simp only [Act.put, List.setIfInBounds_toArray, List.set_cons_zero, List.set_cons_succ]
          refine wpAnyH_take (i := 2) (oi := { dst := Option.some 35, op := Op.move (Operand.tmp 7), type := 3, pos := "law.go:66", after := #[], guard := Option.none }) (v := ?_) rfl (by kernel_rfl) (by kernel_rfl) (by kernel_rfl) (fun _ _ _ h => h) (Or.inl ⟨by rfl, ?_⟩) hS ?_
          rotate_left 1
          · rintro wx ⟨⟨s0, s1, s2⟩, s3, s4⟩
            (go_simp <;> (try with_reducible rfl))
          try simp only [Act.put, List.setIfInBounds_toArray, List.set_cons_zero, List.set_cons_succ]
          refine wpAnyH_take (i := 3) (oi := { dst := Option.some 36, op := Op.indexAddr 22 (Operand.tmp 34) (Operand.tmp 35), type := 0, pos := "law.go:66", after := #[{ on := 1, ground := Ground.data }, { on := 2, ground := Ground.data }], guard := Option.none }) (v := ?_) rfl (by kernel_rfl) (by kernel_rfl) (by kernel_rfl) (fun _ _ _ h => h) (Or.inl ⟨by rfl, ?_⟩) hS ?_
          rotate_left 1
          · rintro wx ⟨⟨s0, s1, s2⟩, s3, s4⟩
            (go_simp <;> (try with_reducible rfl))
          try simp only [Act.put, List.setIfInBounds_toArray, List.set_cons_zero, List.set_cons_succ]
          refine wpAnyH_take (i := 4) (oi := { dst := Option.some 37, op := Op.load 38 (Operand.tmp 36), type := 38, pos := "law.go:66", after := #[{ on := 3, ground := Ground.data }], guard := Option.none }) (v := ?_) rfl (by kernel_rfl) (by kernel_rfl) (by kernel_rfl) (fun _ _ _ h => h) (Or.inl ⟨by rfl, ?_⟩) hS ?_
          rotate_left 1
          · rintro wx ⟨⟨s0, s1, s2⟩, s3, s4⟩
            (go_simp <;> (try with_reducible rfl))
          try simp only [Act.put, List.setIfInBounds_toArray, List.set_cons_zero, List.set_cons_succ]
          refine wpAnyH_take (i := 5) (oi := { dst := Option.some 38, op := Op.indexAddr 59 (Operand.tmp 8) (Operand.const (Value.int IntKind.i64 0)), type := 0, pos := "law.go:66", after := #[], guard := Option.none }) (v := ?_) rfl (by kernel_rfl) (by kernel_rfl) (by kernel_rfl) (fun _ _ _ h => h) (Or.inl ⟨by rfl, ?_⟩) hS ?_
          rotate_left 1
          · rintro wx ⟨⟨s0, s1, s2⟩, s3, s4⟩
            (go_simp <;> (try with_reducible rfl))
          try simp only [Act.put, List.setIfInBounds_toArray, List.set_cons_zero, List.set_cons_succ]
          refine wpAnyH_take (i := 6) (oi := { dst := Option.some 39, op := Op.load 3 (Operand.tmp 38), type := 3, pos := "law.go:66", after := #[{ on := 5, ground := Ground.data }], guard := Option.none }) (v := ?_) rfl (by kernel_rfl) (by kernel_rfl) (by kernel_rfl) (fun _ _ _ h => h) (Or.inl ⟨by rfl, ?_⟩) hS ?_
          rotate_left 1
          · rintro wx ⟨⟨s0, s1, s2⟩, s3, s4⟩
            (go_simp <;> (try with_reducible rfl))
          try simp only [Act.put, List.setIfInBounds_toArray, List.set_cons_zero, List.set_cons_succ]
          refine wpAnyH_take (i := 8) (oi := { dst := Option.some 41, op := Op.indexAddr 59 (Operand.tmp 8) (Operand.const (Value.int IntKind.i64 1)), type := 0, pos := "law.go:66", after := #[], guard := Option.none }) (v := ?_) rfl (by kernel_rfl) (by kernel_rfl) (by kernel_rfl) (fun _ _ _ h => h) (Or.inl ⟨by rfl, ?_⟩) hS ?_
          rotate_left 1
          · rintro wx ⟨⟨s0, s1, s2⟩, s3, s4⟩
            (go_simp <;> (try with_reducible rfl))
          try simp only [Act.put, List.setIfInBounds_toArray, List.set_cons_zero, List.set_cons_succ]
          refine wpAnyH_take (i := 9) (oi := { dst := Option.some 42, op := Op.load 3 (Operand.tmp 41), type := 3, pos := "law.go:66", after := #[{ on := 8, ground := Ground.data }], guard := Option.none }) (v := ?_) rfl (by kernel_rfl) (by kernel_rfl) (by kernel_rfl) (fun _ _ _ h => h) (Or.inl ⟨by rfl, ?_⟩) hS ?_
          rotate_left 1
          · rintro wx ⟨⟨s0, s1, s2⟩, s3, s4⟩
            (go_simp <;> (try with_reducible rfl))
          try simp only [Act.put, List.setIfInBounds_toArray, List.set_cons_zero, List.set_cons_succ]
          refine wpAnyH_ready (rs := [7]) (by kernel_rfl) (by simp) ?_
          refine AllReadyH.cons (o := { dst := Option.some 40, op := Op.call { callee := Callee.value (Operand.func 8), args := #[Operand.tmp 39, Operand.const (Value.int IntKind.i64 6)], argTypes := #[3, 3] }, type := 3, pos := "law.go:66", after := #[{ on := 6, ground := Ground.data }], guard := Option.none }) rfl (fun K hK => ?_) AllReadyH.nil
          go_simp; refine (HPK.out _ _ _ (by omega) (by omega) (by omega) (by omega)).mono ?_; rintro e w5 ⟨rfl, rfl⟩
          refine hK.out _ _ HSS.out (fun hS => ?_)
          clear hK K
          try simp only [Act.put, List.setIfInBounds_toArray, List.set_cons_zero, List.set_cons_succ]
          refine wpAnyH_ready (rs := [10]) (by kernel_rfl) (by simp) ?_
          refine AllReadyH.cons (o := { dst := Option.some 43, op := Op.call { callee := Callee.value (Operand.func 8), args := #[Operand.tmp 42, Operand.const (Value.int IntKind.i64 5)], argTypes := #[3, 3] }, type := 3, pos := "law.go:66", after := #[{ on := 9, ground := Ground.data }, { on := 7, ground := Ground.chain }], guard := Option.none }) rfl (fun K hK => ?_) AllReadyH.nil
          go_simp; refine (HPK.out _ _ _ (by omega) (by omega) (by omega) (by omega)).mono ?_; rintro e w5 ⟨rfl, rfl⟩
          refine hK.out _ _ HSS.out (fun hS => ?_)
          clear hK K
          try simp only [Act.put, List.setIfInBounds_toArray, List.set_cons_zero, List.set_cons_succ]
          rw [← HQ0.out, ← HQ1.out]
          refine wpAnyH_take (i := 11) (oi := { dst := Option.some 44, op := Op.binOp BinOp.add 3 (Operand.const (Value.int IntKind.i64 1)) (Operand.tmp 43) 3, type := 3, pos := "law.go:66", after := #[{ on := 10, ground := Ground.data }], guard := Option.none }) (v := ?_) rfl (by kernel_rfl) (by kernel_rfl) (by kernel_rfl) (fun _ _ _ h => h) (Or.inl ⟨by rfl, ?_⟩) hS ?_
          rotate_left 1
          · rintro wx ⟨⟨s0, s1, s2⟩, s3, s4⟩
            (go_simp <;> (try with_reducible rfl))
          try simp only [Act.put, List.setIfInBounds_toArray, List.set_cons_zero, List.set_cons_succ]
          refine wpAnyH_take (i := 12) (oi := { dst := Option.some 45, op := Op.build 40 #[(0, Operand.tmp 37), (1, Operand.tmp 40), (2, Operand.tmp 44)], type := 40, pos := "law.go:66", after := #[{ on := 4, ground := Ground.data }, { on := 7, ground := Ground.data }, { on := 11, ground := Ground.data }], guard := Option.none }) (v := ?_) rfl (by kernel_rfl) (by kernel_rfl) (by kernel_rfl) (fun _ _ _ h => h) (Or.inl ⟨by rfl, ?_⟩) hS ?_
          rotate_left 1
          · rintro wx ⟨⟨s0, s1, s2⟩, s3, s4⟩
            (go_simp <;> (try with_reducible rfl))
          try simp only [Act.put, List.setIfInBounds_toArray, List.set_cons_zero, List.set_cons_succ]
          refine wpAnyH_ready (rs := [13]) (by kernel_rfl) (by simp) ?_
          refine AllReadyH.cons (o := { dst := Option.some 46, op := Op.buildSlice 32 1 #[(0, Operand.tmp 45)], type := 32, pos := "law.go:66", after := #[{ on := 12, ground := Ground.data }], guard := Option.none }) rfl (fun K hK => ?_) AllReadyH.nil
          go_simp
          refine hK.out _ _ HSA.out (fun hS => ?_)
          clear hK K
          try simp only [Act.put, List.setIfInBounds_toArray, List.set_cons_zero, List.set_cons_succ]
          refine wpAnyH_ready (rs := [14]) (by kernel_rfl) (by simp) ?_
          refine AllReadyH.cons (o := { dst := Option.some 47, op := Op.call { callee := Callee.builtin Builtin.append, args := #[Operand.tmp 33, Operand.tmp 46], argTypes := #[32, 32] }, type := 32, pos := "law.go:66", after := #[{ on := 0, ground := Ground.data }, { on := 13, ground := Ground.data }, { on := 10, ground := Ground.chain }], guard := Option.none }) rfl (fun K hK => ?_) AllReadyH.nil
          refine step_append_run rfl (.tmp 33) (.tmp 46) 32 rfl _ _ (by simp [Act.eval]) (by simp [Act.eval]) happ1 ?_
          refine hK.out _ _ HSW.out (fun hS => ?_)
          clear hK K
          try simp only [Act.put, List.setIfInBounds_toArray, List.set_cons_zero, List.set_cons_succ]
          refine wpAnyH_take (i := 15) (oi := { dst := Option.some 5, op := Op.assign (Operand.tmp 47), type := 32, pos := "law.go:66", after := #[{ on := 14, ground := Ground.data }, { on := 14, ground := Ground.chain }, { on := 0, ground := Ground.phase }, { on := 1, ground := Ground.phase }, { on := 2, ground := Ground.phase }, { on := 3, ground := Ground.phase }, { on := 4, ground := Ground.phase }, { on := 5, ground := Ground.phase }, { on := 6, ground := Ground.phase }, { on := 7, ground := Ground.phase }, { on := 8, ground := Ground.phase }, { on := 9, ground := Ground.phase }, { on := 10, ground := Ground.phase }, { on := 11, ground := Ground.phase }, { on := 12, ground := Ground.phase }, { on := 13, ground := Ground.phase }, { on := 14, ground := Ground.phase }], guard := Option.none }) (v := ?_) rfl (by kernel_rfl) (by kernel_rfl) (by kernel_rfl) (fun _ _ _ h => h) (Or.inl ⟨by rfl, ?_⟩) hS ?_
          rotate_left 1
          · rintro wx ⟨⟨s0, s1, s2⟩, s3, s4⟩
            (go_simp <;> (try with_reducible rfl))
          try simp only [Act.put, List.setIfInBounds_toArray, List.set_cons_zero, List.set_cons_succ]
          refine wpAnyH_done (by kernel_rfl) ?_ _
          clear gw
          go_wp2_with fail
          go_roundw
          case rel => exact RR.out
          case measure => simp [RowKit.intOf]; omega
        · have hqt : (0 < q0) = False := by rw [eq_iff_iff, iff_false]; exact hq
          have HSP := hid (show spillOf p n = [] by rw [HNN.out]; exact if_neg (by rw [← HQ0.out]; exact hq))
          have RR := hid (show SwRel w w1 A z (.slice oa om oc) (.int .i64 ((i : Int) + 1)) w4 from ⟨i + 1, by simp, by rw [← HAN.out]; omega, by rw [HNX.out, HSP.out, List.append_nil]; exact HO4.out, HB4.out, HB14.out⟩)
          clear hya hq
          go_wp2_with fail
          go_roundw
          case rel => exact RR.out
          case measure => simp [RowKit.intOf]; omega
    · have hd1 : decide ((i : Int) < (an : Int)) = false := decide_eq_false (by omega)
      have HE := hid (show ownUpto A z i = ownOf A z by
        unfold ownOf
        rw [show i = A.length by rw [← HAN.out]; omega])
      have HRD := hid HO.out.read
      go_wp2_with fail
      go_ret
      exact ⟨⟨_, rfl, HE.out ▸ HRD.out, ownsRow_capped HO.out⟩, HB.out⟩
end Go.Proofs.YthkjmplcmfabfaaGreatDoor
