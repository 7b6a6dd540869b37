/- Contract of deps.formulas at one sheet with formulas in the first column. Condition: what the package-level variables hold lies as it was laid. Maps whose elements are any values, held as they are. No condition. -/
import Derived.Test.YtpcjfgihglfdgaaGreatDoorKChNodesE
import Derived.Test.YtpcjfgihglfdgaaGreatDoorKChExp2
import Derived.Test.YtpcjfgihglfdgaaGreatDoorKSpOwn
import Derived.Maps.OwnOps
import Derived.Maps.OwnSet
import Derived.Maps.Views
import Derived.DeepKeys4
import Derived.WideKeyEntry

namespace Go.Proofs.YtpcjfgihglfdgaaGreatDoor
open Go.RowKit Go.Lib

def placesN (k : Nat) : List PAt := (List.range k).map fun (i : Nat) => ((0 : Int), (i : Int), (0 : Int))
theorem placesN_len (k : Nat) : (placesN k).length = k := by simp [placesN]
theorem placesN_get {k i : Nat} (h : i < k) : (placesN k)[i]? = some ((0 : Int), (i : Int), (0 : Int)) := by simp [placesN, h]
theorem placesN_succ (k : Nat) : placesN (k + 1) = placesN k ++ [((0 : Int), (k : Int), (0 : Int))] := by simp [placesN, List.range_succ]
theorem onSheet_places (k : Nat) : onSheet (placesN k) 0 = placesN k := by
  unfold onSheet
  rw [List.filter_eq_self]
  intro p hp
  simp only [placesN, List.mem_map] at hp
  obtain ⟨i, -, rfl⟩ := hp
  simp
/-- k formulas in the first column, each with its tree -/
structure Fm (k : Nat) (tx : PAt → ByteArray) (l : Nat → List UInt8) (o : Nat → Ow) (ks : Nat → Fo) : Prop where
  tx : ∀ i, i < k → tx ((0 : Int), (i : Int), (0 : Int)) = bs (61 :: l i)
  rd : ∀ i, i < k → Reads (l i) (o i) (ks i)
  pl : ∀ i, i < k → Plain (o i) ∧ PlainF (ks i) ∧ mF (ks i) + 1 ≤ 200
  few : k ≤ 40
structure FmS (w : World) (n : Nat) (cs : Array Value) (v0 : Value) (o : Nat → Ow) (ks : Nat → Fo) (j : Nat) (av nv : Value) (y : World) : Prop where
  ats : AtsOwn y (n + 2) av (placesN j)
  nds : NodesE y (n + 2) (own av) nv (foN o ks j)
  bk : y.heap[n]? = some (.cells cs 39 (0, 0))
  sh : y.heap[n + 1]? = some (.cells #[.string nameS, v0] 25 (0, 0))
  low : Below n w y
theorem FmS.below {w y z : World} {n : Nat} {cs : Array Value} {v0 : Value} {o : Nat → Ow} {ks : Nat → Fo} {j : Nat} {av nv : Value} (h : FmS w n cs v0 o ks j av nv y) (hb : Below y.heap.size y z) : FmS w n cs v0 o ks j av nv z :=
  ⟨h.ats.below hb, h.nds.turn (F := []) (Chg.of_below hb) (by simp) (fun x hx => .inl hx), (hb.block _ (heap_lt h.bk)).trans h.bk, (hb.block _ (heap_lt h.sh)).trans h.sh, h.low.trans (hb.mono (by have := heap_lt h.sh; omega))⟩
theorem own_cells {w : World} {B size n g : Nat} {e : TypeId} {v : Value} {xs : List Value} (h : w.ownsRow B e size v n xs) (hg : v.ownBlock = some g) : ∃ cs, w.heap[g]? = some (.cells cs e (0, 0)) := by
  rcases h.2 with ⟨rfl, -⟩ | ⟨g', cap, cur, rfl, -, hh, -⟩
  · cases hg
  · simp only [Value.ownBlock, Option.some.injEq] at hg
    subst hg
    exact ⟨_, hh⟩
/-- a round's end: the two rows have grown by one -/
theorem formulas_end {w z1 z3 w4 : World} {n j h3 : Nat} {cs : Array Value} {v0 : Value} {o : Nat → Ow} {ks : Nat → Fo} {av av' : Value} {na : Option Addr} {nc : Nat} {ao : Option Addr} {c : Nat}
    (hlA : ∀ g, av.ownBlock = some g → n + 2 ≤ g ∧ g < z1.heap.size) (hlN : ∀ x ∈ (Value.slice na (foN o ks j).len nc).ownBlock.toList, n + 2 ≤ x ∧ x < z1.heap.size) (S : FmS w n cs v0 o ks j av (.slice na (foN o ks j).len nc) z3)
    (ho : AtsOwn w4 (n + 2) av' (placesN j ++ [((0 : Int), (j : Int), (0 : Int))])) (hc : Chg (own av) z3 w4) (hb : ∀ g, av'.ownBlock = some g → av.ownBlock = some g ∨ z3.heap.size ≤ g)
    (A : z3.heap[h3]? = some (.cells ((o j).cells (.slice ao (ks j).len c)).toArray 79 (0, 0))) (K : KidsV z3 (z1.heap.size ≤ ·) (.slice ao (ks j).len c) (ks j)) (hz : z1.heap.size ≤ h3) (hj : j ≤ 40) (hn1 : n + 2 ≤ z1.heap.size) (h13 : z1.heap.size ≤ z3.heap.size) :
    w4.heap[h3]? = some (.cells ((o j).cells (.slice ao (ks j).len c)).toArray 79 (0, 0)) ∧
    ∃ g cap w6, (Builtin.append_ #[57, 57] 57 #[.slice na (foN o ks j).len nc, .slice (some ⟨w4.heap.size, 0, none⟩) 1 1]).run Tryz.prog (w4.alloc (.cells ((o j).cells (.slice ao (ks j).len c)).toArray 79)) = .ok (.slice (some ⟨g, 0, none⟩) ((foN o ks j).len + 1) cap) w6 ∧
      FmS w n cs v0 o ks (j + 1) av' (.slice (some ⟨g, 0, none⟩) ((foN o ks j).len + 1) cap) w6 := by
  have hnA : ∀ x ∈ own av, n + 2 ≤ x ∧ x < z1.heap.size := fun x hx => hlA x (by simpa [own] using hx)
  have hdis : ∀ x ∈ own av, (Value.slice na (foN o ks j).len nc).ownBlock ≠ some x := fun x hx e => by
    obtain ⟨cs1, h1⟩ := own_cells S.ats (g := x) (by simpa [own] using hx)
    obtain ⟨-, L, hL, -⟩ := S.nds
    obtain ⟨cs2, h2⟩ := own_cells hL e
    exact heap_ne h1 h2 (by decide) rfl
  have T4 : NodesE w4 (n + 2) (own av') (.slice na (foN o ks j).len nc) (foN o ks j) := S.nds.turn hc (fun x hx => ⟨.inl hx, hdis x hx⟩) (fun x hx => by
    rcases hb x (by simpa [own] using hx) with h | h
    · exact .inl (by simpa [own] using h)
    · exact .inr h)
  have hw4 : z3.heap.size ≤ w4.heap.size := hc.size
  have h4 := hc.heap A (fun hm => by have := (hnA h3 hm).2; omega)
  have K4 : KidsV w4 (fun x => n + 2 ≤ x ∧ (Value.slice na (foN o ks j).len nc).ownBlock ≠ some x ∧ x ∉ own av') (.slice ao (ks j).len c) (ks j) :=
    (K.lt.chg hc (fun x hx hB => by have := (hnA x hx).2; have := hB.1; omega)).mono (fun x hx => ⟨by have := hx.1; omega, fun e => by have := (hlN x (by simpa using e)).2; have := hx.1; omega, fun hm => by
      rcases hb x (by simpa [own] using hm) with h | h
      · have := (hlA x h).2; have := hx.1; omega
      · have := hx.2; omega⟩)
  have ba := (Below.refl w4.heap.size w4).alloc (Nat.le_refl _) (.cells ((o j).cells (.slice ao (ks j).len c)).toArray 79)
  have T5 := T4.turn (F := []) (E' := own av') (Chg.of_below ba) (by simp) (fun x hx => .inl hx)
  obtain ⟨g, cap, w6, r1, r2, r3⟩ := nodesE_push T5 (by simp; omega) (by rw [foN_len]; omega) (heap_alloc_new w4 _) (K4.keep ba)
  refine ⟨h4, g, cap, w6, r1, ?_⟩
  have hn2 : ∀ x ∈ (Value.slice na (foN o ks j).len nc).ownBlock.toList, n + 2 ≤ x := fun x hx => (hlN x hx).1
  have cA : ∀ {x : Nat} {ob : Obj}, z3.heap[x]? = some ob → x < n + 2 → w6.heap[x]? = some ob := fun {x ob} hx hl =>
    r3.heap ((ba.block _ (heap_lt (hc.heap hx (fun hm => by have := (hnA x hm).1; omega)))).trans (hc.heap hx (fun hm => by have := (hnA x hm).1; omega))) (fun hm => by have := hn2 x hm; omega)
  refine ⟨?_, r2, cA S.bk (by omega), cA S.sh (by omega), ?_⟩
  · rw [placesN_succ]
    refine (ho.below ba).chg r3 (fun x hx hm => ?_)
    obtain ⟨cs1, h1⟩ := own_cells (ho.below ba) hx
    obtain ⟨-, L, hL, -⟩ := T5
    obtain ⟨cs2, h2⟩ := own_cells hL (g := x) (by simpa using hm)
    exact heap_ne h1 h2 (by decide) rfl
  · have k1 := hc.below (B := n) (fun x hx => by have := (hnA x hx).1; omega) (by omega)
    have k2 := r3.below (B := n) (fun x hx => by have := hn2 x hx; omega) (by simp; omega)
    exact ((S.low.trans k1).trans (ba.mono (by omega))).trans k2
set_option maxRecDepth 20000 in
set_option maxHeartbeats 2000000 in
theorem formulas_any {w : World} (hE : Env w) {v : Value} {k : Nat} {tx : PAt → ByteArray} {l : Nat → List UInt8} {o : Nat → Ow} {ks : Nat → Fo} (hB : Bk1 w v (placesN k) tx) (hF : Fm k tx l o ks) :
    Calls Tryz.prog 13 #[v] w fun e w' => ∃ av nv, e = .returned (.tuple #[av, nv]) ∧ AtsOwn w' (w.heap.size + 2) av (placesN k) ∧ NodesOwn w' (w.heap.size + 2) nv (foN o ks k) ∧ Below w.heap.size w w' := by
  have HBK := hid hB
  have HEn := hid hE
  have HF := hid hF
  obtain ⟨⟨b, off, bc, v0, hbc, rfl, hb0, hb1, hcl⟩, -, -, -, -⟩ := hB
  rw [onSheet_places] at hcl
  have HCL := hid hcl
  have ba := (Below.refl w.heap.size w).alloc (Nat.le_refl _) (.cells (bookC1 b off bc) 39)
  have g0 := heap_alloc_new w (.cells (bookC1 b off bc) 39)
  have s0 := cell_keep hb0 ba
  have s1 := cell_keep hb1 ba
  have BA := hid ba
  obtain ⟨n, hn⟩ : ∃ n, n = w.heap.size := ⟨_, rfl⟩
  have hsb : b < (w.alloc (.cells (bookC1 b off bc) 39)).heap.size := World.block_lt_of_cell? _ _ s0
  obtain ⟨ca, cn, cc, rfl⟩ : ∃ ca cn cc, v0 = .slice ca cn cc := by
    obtain ⟨ao, c, b', off', e, -⟩ := hcl.view
    exact ⟨ao, _, c, e⟩
  have hcn : cn = k := by
    obtain ⟨ao, c, b', off', e, -⟩ := hcl.view
    rw [placesN_len] at e
    cases e
    rfl
  subst hcn
  clear hcl ba hb0 hb1 hE hF
  go_enter Tryz.func13, Tryz.ntmps13
  go_wp2_with fail
  rw [← hn] at g0 ⊢
  have k0 := cell_of (i := 0) g0 rfl
  have hsz : (w.alloc (.cells (bookC1 b off bc) 39)).heap.size = n + 1 := by rw [World.size_alloc, hn]
  have HN := hid hn
  clear hn
  generalize World.alloc _ _ = w0 at g0 s0 s1 BA hsb k0 hsz ⊢
  have HSZ := hid hsz
  clear hsz
  refine wp_loop_rounds 2 ?_
  rw [rounds_succ]
  go_wp2_with fail
  have hsz := HSZ.out
  rw [hsz]
  have bs1 := (Below.refl w0.heap.size w0).alloc (Nat.le_refl _) (.cells #[.string nameS, .slice ca cn cc] 25)
  have q1 := heap_alloc_new w0 (.cells #[.string nameS, .slice ca cn cc] 25)
  rw [hsz] at q1
  have S0 := hid (show FmS w n (bookC1 b off bc) (.slice ca cn cc) o ks 0 (.slice none 0 0) (.slice none 0 0) (w0.alloc (.cells #[.string nameS, .slice ca cn cc] 25)) from
    ⟨AtsOwn.nil _ _, NodesE.nil _ _ _, heap_alloc_keep g0 _, q1, by have h1 := BA.out.trans (bs1.mono BA.out.size); rw [← HN.out] at h1; exact h1⟩)
  clear bs1 q1 g0 s0 s1 BA hsb k0 HSZ
  generalize World.alloc w0 _ = y0 at S0 ⊢
  have h40 := HF.out.few
  rename_i K hK
  have HC := hid hK
  clear hK hsz
  go_loopw [2, 3, 26] (fun av nv v wr => ∃ j : Nat, v = .int .i64 j ∧ j ≤ cn ∧ FmS w n (bookC1 b off bc) (.slice ca cn cc) o ks j av nv wr) (fun _ _ v _ => cn - (intOf v).toNat)
  case atStart => exact ⟨0, rfl, Nat.zero_le _, S0.out⟩
  case round =>
    obtain ⟨j, rfl, hj, hs⟩ := hrel
    have HS := hid hs
    clear S0
    by_cases hjk : j < cn
    · obtain ⟨ca', cc', cb, co, ec, -, hcells⟩ := (HCL.out.below (by rw [← HN.out]; exact hs.low)).view
      obtain ⟨hca, r0, r1, r2⟩ := hcells j _ (placesN_get hjk)
      have e2 : ca = some ⟨cb, co, none⟩ := by
        rw [← hca]
        injection ec
      subst e2
      rw [HF.out.tx j hjk] at r2
      obtain ⟨s, hsx⟩ : ∃ s, s = bs (61 :: l j) := ⟨_, rfl⟩
      rw [← hsx] at r2
      have HSX := hid hsx
      have XC := hid (fun w => show Calls Tryz.prog 43 #[.string s, .string ⟨#[61]⟩] w fun e w' => e = .returned (.tuple #[.string (bs (l j)), .bool true]) ∧ w = w' from by rw [hsx]; exact cutPrefix_yes [61] (l j) w)
      obtain ⟨sr, hsr⟩ : ∃ sr, sr = bs (l j) := ⟨_, rfl⟩
      rw [← hsr] at XC
      have hjn : (j : Int) ≤ 40 := by omega
      have n0 := heap_alloc_new wr (.cells #[.int .i64 (j : Int), .int .i64 0, .string s] 28)
      have b0 := (Below.refl wr.heap.size wr).alloc (Nat.le_refl _) (.cells #[.int .i64 (j : Int), .int .i64 0, .string s] 28)
      have S1 := hid (hs.below b0)
      obtain ⟨q, nd, no', rd⟩ : ∃ q : Nat, q = (ks j).len ∧ Reads (l j) (o j) (ks j) ∧ (Plain (o j) ∧ PlainF (ks j) ∧ mF (ks j) + 1 ≤ 200) := ⟨_, rfl, HF.out.rd j hjk, HF.out.pl j hjk⟩
      have HQ := hid nd
      have HRD := hid no'
      have HPL := hid rd
      have HSR := hid hsr
      have hns := heap_lt hs.sh
      have HNS := hid hns
      obtain ⟨h, hh⟩ : ∃ h, h = wr.heap.size := ⟨_, rfl⟩
      have HH := hid hh
      clear hs ec hca hsx b0 nd no' rd hsr hns hcells
      go_wp2_with fail
      rw [← hh] at n0 ⊢
      clear hh
      generalize World.alloc _ _ = y1 at n0 S1 ⊢
      refine (XC.out _).mono ?_
      rintro e w' ⟨rfl, rfl⟩
      go_wp2_with fail
      refine (show Calls Tryz.prog _ #[.string sr] _ _ from by rw [HSR.out]; exact treeRead_any HRD.out _ (HEn.out.below (by have := S1.out.low; rw [HN.out] at this; exact this))).mono ?_
      rintro e w1 ⟨ao, c, rfl, hk1, b1⟩
      rw [← HQ.out] at hk1 ⊢
      have b2 := (((Chg.refl [] w1).alloc (.cells (nodeL 0 0).toArray 79)).setRow (.inr (Nat.le_refl _)) ((o j).cells (.slice ao q c)).toArray).nil_below
      have A1 := hid (heap_setRow_at (cs := ((o j).cells (.slice ao q c)).toArray) (heap_alloc_new w1 (.cells (nodeL 0 0).toArray 79)))
      have S3 := hid (show FmS w n _ _ o ks j u2 u3 ((w1.alloc (.cells (nodeL 0 0).toArray 79)).setRow w1.heap.size ((o j).cells (.slice ao q c)).toArray) from (S1.out.below b1).below b2)
      have b12 : Below y1.heap.size y1 ((w1.alloc (.cells (nodeL 0 0).toArray 79)).setRow w1.heap.size ((o j).cells (.slice ao q c)).toArray) := b1.trans (b2.mono b1.size)
      have N3 := hid ((b12.block _ (heap_lt n0)).trans n0)
      have K3 := hid (hk1.keep b2)
      have HX := hid (fun (z : World) (B : Nat → Prop) (hlow : Below w.heap.size w z) (h3 : KidsV z B (.slice ao q c) (ks j)) => show Calls Tryz.prog 45 #[.agg (bookC1 b off bc), .int .i64 0, .agg ((o j).cells (.slice ao q c)).toArray] z fun e w' =>
          ∃ ao' c', e = .returned (.tuple #[.agg ((o j).cells (.slice ao' q c')).toArray, .int .i64 0]) ∧ KidsV w' (z.heap.size ≤ ·) (.slice ao' q c') (ks j) ∧ Below z.heap.size z w' from by
        rw [HQ.out] at h3 ⊢
        exact xpand_any HPL.out.1 HPL.out.2.1 HPL.out.2.2 HRD.out.right z (HEn.out.below hlow) (HBK.out.below hlow) h3)
      clear hk1 b1 b2 b12 n0 S1 XC
      go_wp2_with (first | (refine wpList_store_row rfl 79 _ _ rfl w1.heap.size ((o j).cells (.slice ao q c)).toArray rfl rfl 79 _ (heap_alloc_new w1 _) (node_info 0 0) (by rfl) (ow_one (o j) ao q c) ?_) | (refine wpList_load_row rfl 79 _ rfl w1.heap.size rfl 79 _ (0, 0) _ A1.out Tryz.underlying79 rfl (ow_info (o j) (.slice ao q c)) ?_) | (refine wpList_load_row rfl 39 _ rfl n rfl 39 _ (0, 0) _ S3.out.bk Tryz.underlying39 rfl (show _ = some 4 from by kernel_rfl) ?_))
      refine (HX.out _ _ (by have := S3.out.low; rw [HN.out] at this; exact this) K3.out).mono ?_
      rintro e w3 ⟨ao', c', rfl, hk3, b3⟩
      obtain ⟨z1, hz1⟩ : ∃ z1, z1 = (w1.alloc (.cells (nodeL 0 0).toArray 79)).setRow w1.heap.size ((o j).cells (.slice ao q c)).toArray := ⟨_, rfl⟩
      rw [← hz1] at S3 N3 hk3 b3
      have S4 := S3.out.below b3
      have b4 := (((Chg.refl [] w3).alloc (.cells (nodeL 0 0).toArray 79)).setRow (.inr (Nat.le_refl _)) ((o j).cells (.slice ao' q c')).toArray).nil_below
      have A2 := heap_setRow_at (cs := ((o j).cells (.slice ao' q c')).toArray) (heap_alloc_new w3 (.cells (nodeL 0 0).toArray 79))
      have S5 := S4.below b4
      have N5 := ((b3.trans (b4.mono b3.size)).block _ (heap_lt N3.out)).trans N3.out
      have K5 := hk3.keep b4
      have hz3 := b3.size
      have hw3 : w3.heap.size < ((w3.alloc (.cells (nodeL 0 0).toArray 79)).setRow w3.heap.size ((o j).cells (.slice ao' q c')).toArray).heap.size := heap_lt A2
      obtain ⟨av, am, ac, rfl, ham⟩ := S5.ats.view
      obtain ⟨na, nc, rfl⟩ := S5.nds.view
      have hlowA := S3.out.ats.low
      have hlowN := S3.out.nds.own.low
      obtain ⟨z3, hz⟩ : ∃ z3, z3 = (w3.alloc (.cells (nodeL 0 0).toArray 79)).setRow w3.heap.size ((o j).cells (.slice ao' q c')).toArray := ⟨_, rfl⟩
      rw [← hz] at A2 S5 N5 K5 hw3
      obtain ⟨a2, c2, w4, happ, ho4, hc4, hb4⟩ := S5.ats.app (by have := heap_lt S5.sh; omega) ham rfl (by rw [ham, placesN_len]; omega) ((0 : Int), (j : Int), (0 : Int))
      have FIN : w4.heap[w3.heap.size]? = some (.cells ((o j).cells (.slice ao' q c')).toArray 79 (0, 0)) ∧ ∃ g cap w6, (Builtin.append_ #[57, 57] 57 #[.slice na (foN o ks j).len nc, .slice (some ⟨w4.heap.size, 0, none⟩) 1 1]).run Tryz.prog (w4.alloc (.cells ((o j).cells (.slice ao' q c')).toArray 79)) = .ok (.slice (some ⟨g, 0, none⟩) ((foN o ks j).len + 1) cap) w6 ∧
          FmS w n (bookC1 b off bc) (.slice (some ⟨cb, co, none⟩) cn cc) o ks (j + 1) (.slice a2 (am + 1) c2) (.slice (some ⟨g, 0, none⟩) ((foN o ks j).len + 1) cap) w6 := by
        have A3 := A2
        have K6 := K5
        rw [HQ.out] at A3 K6 ⊢
        exact formulas_end hlowA hlowN S5 ho4 hc4 hb4 A3 K6 hz3 (by omega) (by have := heap_lt S3.out.sh; omega) (by omega)
      obtain ⟨h4, g, cap, w6, happ2, S6⟩ := FIN
      have happ' : (Builtin.append_ #[29, 29] 29 #[.slice av am ac, .slice (some ⟨z3.heap.size, 0, none⟩) 1 1]).run Tryz.prog (z3.alloc (.cells #[.int .i64 0, .int .i64 (j : Int), .int .i64 0] 46)) = .ok (.slice a2 (am + 1) c2) w4 := happ
      have e0 := cell_of (i := 0) N5 rfl
      have e1 := cell_of (i := 1) N5 rfl
      have S7 := hid S6
      have H4 := hid h4
      have AA := hid A2
      have hnl := heap_lt N5
      have HZ := hid hz
      clear S4 S5 N5 K5 hz3 hw3 hlowA hlowN ho4 hc4 hb4 S6 h4 A2 hz happ b3 b4 hk3 K3 hz1 ham HX S3 A1 N3 HC
      go_wp2_with (first | (refine wpList_store_row rfl 79 _ _ rfl w3.heap.size ((o j).cells (.slice ao' q c')).toArray rfl rfl 79 _ (heap_alloc_new w3 _) (node_info 0 0) (by rfl) (ow_one (o j) ao' q c') ?_) | (refine stop_load 3 _ rfl ?_))
      rw [← HZ.out]
      clear HZ
      refine Stop.mk ?_
      go_wp2_with (first | (refine wpList_append_run rfl _ _ _ rfl _ _ rfl rfl happ' ?_) | (refine wpList_append_run rfl _ _ _ rfl _ _ rfl rfl happ2 ?_) | (refine wpList_load_row rfl 79 _ rfl w3.heap.size rfl 79 _ (0, 0) _ H4.out Tryz.underlying79 rfl (ow_info (o j) (.slice ao' q c')) ?_))
      go_roundw
      case rel => exact ⟨j + 1, by simp, hjk, S7.out⟩
      case measure => simp [intOf]; omega
    · obtain rfl : j = cn := by omega
      clear hs hj hjk h40
      go_wp2_with fail
      refine HC.out _ _ ?_
      go_wp2_with fail
      rw [rounds_succ]
      go_wp2_with fail
      go_ret2
      exact ⟨_, _, rfl, by rw [← HN.out]; exact HS.out.ats, by rw [← HN.out]; exact HS.out.nds.own, by have := HS.out.low; rw [HN.out] at this; exact this⟩
end Go.Proofs.YtpcjfgihglfdgaaGreatDoor

namespace Go.Proofs.YtpcjfgihglfdgaaGreatDoor
open Go.RowKit Go.Lib Go.Maps

/-- an element's value, held as it is -/
def heldElem (v : Value) : Option (DataW Value × List MemPlace) := some (.held v, [])

/-- what is known of a type of keys -/
structure KeysOf (k : TypeId) {κ : Type} (kv : κ → Value) (ok : κ → Prop) : Prop where
  keyed : Keyed Tryz.prog k
  key : ∀ p, ok p → ∃ kl, keyOf Tryz.prog k (kv p) = some kl
  inj : ∀ p q, kv p = kv q → p = q

/-- block b is a map of at most n entries, and holds M -/
def MapV (w : World) (k : TypeId) (z : Value) {κ : Type} (kv : κ → Value) (b n : Nat) (M : κ → Option Value) : Prop :=
  ∃ D : DataW Value, w.ownsMap Tryz.prog k heldElem b n D ∧ ∀ p kl, keyOf Tryz.prog k (kv p) = some kl → D.atKey kl (.held z) = .held ((M p).getD z) ∧ Maps.has D kl = (M p).isSome

variable {k : TypeId} {z : Value} {κ : Type} {kv : κ → Value} {ok : κ → Prop} {w w' : World} {b n : Nat} {M : κ → Option Value}

theorem MapV.made (w : World) (k : TypeId) (z : Value) (kv : κ → Value) : MapV (w.alloc (.map #[] 0)) k z kv w.heap.size 0 (fun _ => none) :=
  ⟨_, World.ownsMap_made _ _ _ _, fun _p _kl _ => ⟨rfl, rfl⟩⟩
theorem MapV.look {t e : TypeId} (h : MapV w k z kv b n M) (K : KeysOf k kv ok) (ht : Tryz.prog.underlying t = some (.map k e)) (hz : (zeroValue e).run Tryz.prog w = .ok z w) (p : κ) (hp : ok p) :
    (Instr.lookup t (.map (some b)) (kv p) false).run Tryz.prog w = .ok ((M p).getD z) w := by
  obtain ⟨D, h1, h2⟩ := h
  obtain ⟨kl, hk⟩ := K.key p hp
  obtain ⟨v, ps, hr, hv⟩ := h1.lookup K.keyed ht hz (zd := .held z) (zp := []) rfl hk
  rw [hr]
  rw [(h2 p kl hk).1] at hv
  simp only [heldElem, Option.some.injEq, Prod.mk.injEq, DataW.held.injEq] at hv
  rw [hv.1]
theorem MapV.look_ok {t e : TypeId} (h : MapV w k z kv b n M) (K : KeysOf k kv ok) (ht : Tryz.prog.underlying t = some (.map k e)) (hz : (zeroValue e).run Tryz.prog w = .ok z w) (p : κ) (hp : ok p) :
    (Instr.lookup t (.map (some b)) (kv p) true).run Tryz.prog w = .ok (.tuple #[(M p).getD z, .bool (M p).isSome]) w := by
  obtain ⟨D, h1, h2⟩ := h
  obtain ⟨kl, hk⟩ := K.key p hp
  obtain ⟨v, ps, hr, hv⟩ := h1.look_ok K.keyed ht hz (zd := .held z) (zp := []) rfl hk
  rw [hr]
  rw [(h2 p kl hk).1] at hv
  simp only [heldElem, Option.some.injEq, Prod.mk.injEq, DataW.held.injEq] at hv
  rw [hv.1, (h2 p kl hk).2]
theorem MapV.put {t e : TypeId} (h : MapV w k z kv b n M) (K : KeysOf k kv ok) (ht : Tryz.prog.underlying t = some (.map k e)) (hn : n < 1000000000) (p : κ) (hp : ok p) (v : Value) :
    ∃ w', (Instr.mapUpdate t (.map (some b)) (kv p) v).run Tryz.prog w = .ok () w' ∧ (∀ M', M' p = some v → (∀ q, q ≠ p → M' q = M q) → MapV w' k z kv b (n + 1) M') ∧ w.grownBy w' (some b) := by
  obtain ⟨D, h1, h2⟩ := h
  obtain ⟨kl, hk⟩ := K.key p hp
  obtain ⟨w', hr, hown, hg⟩ := h1.update K.keyed ht (by unfold maxLen; omega) hk (val := v) (d := .held v) (ps := []) rfl
  refine ⟨w', hr, fun M' hM hM' => ⟨_, hown, fun q kq hq => ?_⟩, hg⟩
  by_cases e : q = p
  · subst e
    rw [hk] at hq
    cases hq
    rw [hM]
    exact ⟨atKey_put_same h1.isMap (K.keyed.key hk) _ _, has_put_same h1.isMap (K.keyed.key hk) _⟩
  · have hne : kq ≠ kl := fun ek => e (K.inj _ _ (K.keyed.inj hq (ek ▸ hk)))
    rw [hM' q e]
    exact ⟨by rw [atKey_put_other hne]; exact (h2 q kq hq).1, by rw [has_put_other hne]; exact (h2 q kq hq).2⟩
theorem MapV.lt (h : MapV w k z kv b n M) : b < w.heap.size := by
  obtain ⟨D, h1, -⟩ := h
  exact h1.lt
theorem MapV.grown {row : Option Nat} (h : MapV w k z kv b n M) (hg : w.grownBy w' row) (hne : some b ≠ row) : MapV w' k z kv b n M := by
  obtain ⟨D, h1, h2⟩ := h
  exact ⟨D, h1.kept hg hne, h2⟩
theorem MapV.chg {F : List Nat} (h : MapV w k z kv b n M) (hc : Chg F w w') (hne : b ∉ F) : MapV w' k z kv b n M := by
  obtain ⟨D, ⟨es, clock, hb, F', hs, hD⟩, h2⟩ := h
  exact ⟨D, ⟨es, clock, hc.heap hb hne, F', hs, hD⟩, h2⟩
theorem MapV.below (h : MapV w k z kv b n M) (hb : Below w.heap.size w w') : MapV w' k z kv b n M := h.chg (F := []) (Chg.of_below hb) (by simp)
theorem MapV.of_eq {m : Nat} {M' : κ → Option Value} (h : MapV w k z kv b n M) (hn : n ≤ m) (hs : ∀ p, M' p = M p) : MapV w k z kv b m M' := by
  obtain ⟨D, h1, h2⟩ := h
  exact ⟨D, h1.mono hn, fun p kl hk => by rw [hs]; exact h2 p kl hk⟩

theorem nodup_inj {α β : Type} {f : α → β} : ∀ {l : List α}, (l.map f).Nodup → ∀ {x y : α}, x ∈ l → y ∈ l → f x = f y → x = y
  | [], _, _, _, hx, _, _ => by simp at hx
  | a :: l, h, x, y, hx, hy, e => by
    simp only [List.map_cons, List.nodup_cons, List.mem_map, not_exists, not_and] at h
    rcases List.mem_cons.1 hx with rfl | hx'
    · rcases List.mem_cons.1 hy with rfl | hy'
      · rfl
      · exact absurd e.symm (h.1 y hy')
    · rcases List.mem_cons.1 hy with rfl | hy'
      · exact absurd e (h.1 x hx')
      · exact nodup_inj h.2 hx' hy' e

/-- the two operations of m[k] = append(m[k], ..): the entry is laid, then its value is stored -/
theorem MapV.entry {t e : TypeId} (h : MapV w k z kv b n M) (K : KeysOf k kv ok) (L : WideMaps.KeyLaw Tryz.prog k) (ht : Tryz.prog.underlying t = some (.map k e)) (hz : ∀ u : World, (zeroValue e).run Tryz.prog u = .ok z u) (hn : n < 1000000000) (p : κ) (hp : ok p) :
    ∃ (st : Nat) (es1 : Array MapEntry) (c1 : Nat) (w1 : World), (Instr.mapEntry t (.map (some b)) (kv p)).run Tryz.prog w = .ok (.tuple #[(M p).getD z, goInt st]) w1 ∧ w1.heap[b]? = some (.map es1 c1) ∧ w.grownBy w1 (some b) ∧
      ∀ (w2 : World) (v : Value), w2.heap[b]? = some (.map es1 c1) → ∃ w3, (Instr.entryStore t (.map (some b)) (goInt st) v).run Tryz.prog w2 = .ok () w3 ∧ w2.grownBy w3 (some b) ∧
        ∀ M' : κ → Option Value, M' p = some v → (∀ q, q ≠ p → M' q = M q) → MapV w3 k z kv b (n + 1) M' := by
  have hlk := h.look K ht (hz w) p hp
  have hput := fun v => h.put K ht hn p hp v
  obtain ⟨D, ⟨es, clock, hb, F, hs, hD⟩, h2⟩ := h
  obtain ⟨kl, hk⟩ := K.key p hp
  obtain ⟨v0, st, es1, c1, hr1, hv0, hst⟩ := WideElems.entry_then_store L ht hz hb F hk
  have ev : v0 = (M p).getD z := by
    rcases Maps.fit_look false K.keyed ht (hz w) hb F hk with ⟨hrun, hno, -⟩ | ⟨e0, y, hm0, hk0, hrun, -⟩
    · have : z = (M p).getD z := by
        rw [hlk] at hrun
        simp only [Bool.false_eq_true, if_false, Result.ok.injEq, and_true] at hrun
        exact hrun.symm
      rcases hv0 with ⟨x, hx, hxk, -⟩ | ⟨-, hv⟩
      · exact absurd hxk (hno x hx)
      · rw [hv]; exact this
    · have hh : e0.val = (M p).getD z := by
        rw [hlk] at hrun
        simp only [Bool.false_eq_true, if_false, Result.ok.injEq, and_true] at hrun
        exact hrun.symm
      rcases hv0 with ⟨x, hx, hxk, hv⟩ | ⟨hno, -⟩
      · have := nodup_inj F.stamped.2.2 hx hm0 (hxk.trans hk0.symm)
        rw [hv, this]; exact hh
      · exact absurd hk0 (hno e0 hm0)
  have gr : ∀ (y : World) (es' : Array MapEntry) (c' : Nat) (o : Obj), y.heap[b]? = some (.map es' c') → y.grownBy (ChangeMaps.setBlock y b o) (some b) := fun y es' c' o hy =>
    ⟨rfl, rfl, rfl, by simp [ChangeMaps.setBlock], fun i _ hi => ChangeMaps.heap_setBlock_other hy o (fun e => hi (by rw [e]))⟩
  refine ⟨st, es1, c1, _, ev ▸ hr1, ChangeMaps.heap_setBlock_same hb _, gr _ _ _ _ hb, fun w2 v hw2 => ?_⟩
  obtain ⟨es', c', hr3, hr4⟩ := hst w2 v hw2
  refine ⟨_, hr3, gr _ _ _ _ hw2, fun M' hM hM' => ?_⟩
  obtain ⟨w', hr5, hm5, -⟩ := hput v
  have he : w' = ChangeMaps.setBlock w b (.map es' c') := by
    rw [hr5] at hr4
    simp only [Result.ok.injEq, true_and] at hr4
    exact hr4
  subst he
  obtain ⟨D', ⟨es2, c2, hb2, F2, hs2, hD2⟩, h3⟩ := hm5 M' hM hM'
  rw [ChangeMaps.heap_setBlock_same hb] at hb2
  simp only [Option.some.injEq, Obj.map.injEq] at hb2
  obtain ⟨rfl, rfl⟩ := hb2
  exact ⟨D', ⟨es', c', ChangeMaps.heap_setBlock_same hw2 _, F2, hs2, hD2⟩, h3⟩
theorem MapV.of_heap (h : MapV w k z kv b n M) (hw : w'.heap[b]? = w.heap[b]?) : MapV w' k z kv b n M := by
  obtain ⟨D, ⟨es, clock, hb, F', hs, hD⟩, h2⟩ := h
  exact ⟨D, ⟨es, clock, hw.trans hb, F', hs, hD⟩, h2⟩

/-! the types of keys -/
theorem mv_laid : laidOutB Tryz.prog = true := by kernel_rfl
theorem mv_size : ∃ m, Tryz.prog.types.size = m + 1 := ⟨Tryz.prog.types.size - 1, by have : 0 < Tryz.prog.types.size := of_decide_eq_true (by kernel_rfl); omega⟩
theorem mv_int_cells : Tryz.prog.cellsOf 3 = 1 := by kernel_rfl
/-- a number that is an int -/
def I64 (x : Int) : Prop := -9223372036854775808 ≤ x ∧ x ≤ 9223372036854775807

theorem int_keys : KeysOf 3 (fun x : Int => Value.int .i64 x) I64 where
  keyed := int_keyed Tryz.underlying3
  key p hp := ⟨_, keyOf_int_mk Tryz.underlying3 (WalkArith.wf_i64 hp)⟩
  inj p q h := by simpa using h

/-- a line: a sheet and a row -/
def lineV (p : Int × Int) : Value := .agg #[.int .i64 p.1, .int .i64 p.2]
def I64s (p : Int × Int) : Prop := I64 p.1 ∧ I64 p.2
theorem line_row : (188 : TypeId) < Tryz.prog.types.size := of_decide_eq_true (by kernel_rfl)
theorem line_wide : (match Tryz.prog.underlying 188 with | some (.array _ _) | some (.struct _) => true | _ => false) = true := by kernel_rfl
set_option maxRecDepth 100000 in
theorem line_law : WideMaps.KeyLaw Tryz.prog 188 := deep_law_laid mv_laid (m := 2) (by omega) line_row (by kernel_rfl) line_wide
theorem line_type : Tryz.prog.keyType 188 = true := by kernel_rfl
theorem line_cells : Tryz.prog.cellsOf 188 = 2 := by kernel_rfl
theorem line_keys : KeysOf 188 lineV I64s where
  keyed := Keyed.of_law line_law
  key p hp := by
    obtain ⟨p1, p2⟩ := p
    obtain ⟨h1, h2⟩ := hp
    have w1 : (Lit.int .i64 p1).wf = true := WalkArith.wf_i64 h1
    have w2 : (Lit.int .i64 p2).wf = true := WalkArith.wf_i64 h2
    obtain ⟨m, hm⟩ := mv_size
    unfold keyOf
    rw [Tryz.underlying188]
    have hf : (lineV (p1, p2)).formed Tryz.prog 188 = true := by simp [Value.formed, Tryz.underlying188, line_cells, lineV]
    simp only [line_type, hf, Bool.and_self, if_true, Option.map_eq_some_iff]
    rw [hm]
    simp [Program.keyLits, Tryz.underlying188, Tryz.underlying3, line_cells, mv_int_cells, lineV, Value.cells, w1, w2]
  inj p q h := by
    obtain ⟨p1, p2⟩ := p
    obtain ⟨q1, q2⟩ := q
    simp [lineV] at h
    simp [h]

/-- a place: a sheet, a row, a column -/
def placeV (p : Int × Int × Int) : Value := .agg #[.int .i64 p.1, .int .i64 p.2.1, .int .i64 p.2.2]
def I64t (p : Int × Int × Int) : Prop := I64 p.1 ∧ I64 p.2.1 ∧ I64 p.2.2
theorem place_row : (46 : TypeId) < Tryz.prog.types.size := of_decide_eq_true (by kernel_rfl)
theorem place_wide : (match Tryz.prog.underlying 46 with | some (.array _ _) | some (.struct _) => true | _ => false) = true := by kernel_rfl
set_option maxRecDepth 100000 in
theorem place_law : WideMaps.KeyLaw Tryz.prog 46 := deep_law_laid mv_laid (m := 2) (by omega) place_row (by kernel_rfl) place_wide
theorem place_type : Tryz.prog.keyType 46 = true := by kernel_rfl
theorem place_cells : Tryz.prog.cellsOf 46 = 3 := by kernel_rfl
theorem place_keys : KeysOf 46 placeV I64t where
  keyed := Keyed.of_law place_law
  key p hp := by
    obtain ⟨p1, p2, p3⟩ := p
    obtain ⟨h1, h2, h3⟩ := hp
    have w1 : (Lit.int .i64 p1).wf = true := WalkArith.wf_i64 h1
    have w2 : (Lit.int .i64 p2).wf = true := WalkArith.wf_i64 h2
    have w3 : (Lit.int .i64 p3).wf = true := WalkArith.wf_i64 h3
    obtain ⟨m, hm⟩ := mv_size
    unfold keyOf
    rw [Tryz.underlying46]
    have hf : (placeV (p1, p2, p3)).formed Tryz.prog 46 = true := by simp [Value.formed, Tryz.underlying46, place_cells, placeV]
    simp only [place_type, hf, Bool.and_self, if_true, Option.map_eq_some_iff]
    rw [hm]
    simp [Program.keyLits, Tryz.underlying46, Tryz.underlying3, place_cells, mv_int_cells, placeV, Value.cells, w1, w2, w3]
  inj p q h := by
    obtain ⟨p1, p2, p3⟩ := p
    obtain ⟨q1, q2, q3⟩ := q
    simp [placeV] at h
    simp [h]
end Go.Proofs.YtpcjfgihglfdgaaGreatDoor
