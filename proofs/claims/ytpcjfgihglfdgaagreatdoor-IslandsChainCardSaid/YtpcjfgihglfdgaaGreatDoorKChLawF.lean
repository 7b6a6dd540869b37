/- tabulalaw13.IslandsChain answers true. Condition: what the package-level variables hold lies as it was laid. -/
import Derived.Test.YtpcjfgihglfdgaaGreatDoorKChLawE
import Derived.Deep.CutRange

namespace Go.Proofs.YtpcjfgihglfdgaaGreatDoor
open Go.RowKit Go.Lib

/-- what stands between two rounds: the two sheets, their cells -/
structure Lo (w1 : World) (g i j : Nat) (dv uv : Value) (z : World) : Prop where
  dn : z.heap[g]? = some (.cells #[.string nameS, dv] 25 (0, 0))
  up : z.heap[g + 1]? = some (.cells #[.string nameS, uv] 25 (0, 0))
  dc : ClsOwn z (g + 2) dv txD (placesN i)
  uc : ClsOwn z (g + 2) uv txU (placesN j)
  ap : ∀ h, dv.ownBlock = some h → uv.ownBlock ≠ some h
  low : Below g w1 z
theorem Lo.below {w1 z z2 : World} {g i j : Nat} {dv uv : Value} (h : Lo w1 g i j dv uv z) (hb : Below z.heap.size z z2) : Lo w1 g i j dv uv z2 :=
  ⟨(hb.block _ (heap_lt h.dn)).trans h.dn, (hb.block _ (heap_lt h.up)).trans h.up, h.dc.below hb, h.uc.below hb, h.ap, h.low.trans (hb.mono (Nat.le_of_lt (heap_lt h.dn)))⟩
theorem Lo.dnD {w1 z z2 : World} {g i j : Nat} {dv uv : Value} (h : Lo w1 g i j dv uv z) (hc : Chg (own dv) z z2) : z2.heap[g]? = some (.cells #[.string nameS, dv] 25 (0, 0)) :=
  hc.heap h.dn (fun hm => by have := (h.dc.low g (by simpa [own] using hm)).1; omega)
theorem Lo.upU {w1 z z2 : World} {g i j : Nat} {dv uv : Value} (h : Lo w1 g i j dv uv z) (hc : Chg (own uv) z z2) : z2.heap[g + 1]? = some (.cells #[.string nameS, uv] 25 (0, 0)) :=
  hc.heap h.up (fun hm => by have := (h.uc.low (g + 1) (by simpa [own] using hm)).1; omega)
theorem Lo.putD {w1 z z2 : World} {g i j : Nat} {dv uv v' : Value} (h : Lo w1 g i j dv uv z) (hc : Chg (own dv) z z2) (ho : ClsOwn z2 (g + 2) v' txD (placesN (i + 1))) (hb : ∀ b, v'.ownBlock = some b → dv.ownBlock = some b ∨ z.heap.size ≤ b) : Lo w1 g (i + 1) j v' uv (z2.setCell ⟨g, 1, none⟩ v') := by
  have hl := h.dc.low
  have gd : ∀ x, x ∈ own dv → g + 2 ≤ x := fun x hx => (hl x (by simpa [own] using hx)).1
  have dn := hc.heap h.dn (fun hm => by have := gd _ hm; omega)
  have up := hc.heap h.up (fun hm => by have := gd _ hm; omega)
  have uc := h.uc.chg hc (fun b hb2 hm => h.ap b (by simpa [own] using hm) hb2)
  refine ⟨by simpa using heap_setCell_at (i := 1) dn v', heap_setCell_far up (by omega) _, cls_store ho dn, cls_store uc dn, fun b h1 h2 => ?_, ?_⟩
  · rcases hb b h1 with h3 | h3
    · exact h.ap b h3 h2
    · have := (h.uc.low b h2).2; omega
  · exact (h.low.trans (hc.below (fun x hx => by have := gd x hx; omega) (Nat.le_of_lt (heap_lt h.dn)))).setCell (Nat.le_refl _) _
theorem Lo.putU {w1 z z2 : World} {g i j : Nat} {dv uv v' : Value} (h : Lo w1 g i j dv uv z) (hc : Chg (own uv) z z2) (ho : ClsOwn z2 (g + 2) v' txU (placesN (j + 1))) (hb : ∀ b, v'.ownBlock = some b → uv.ownBlock = some b ∨ z.heap.size ≤ b) : Lo w1 g i (j + 1) dv v' (z2.setCell ⟨g + 1, 1, none⟩ v') := by
  have hl := h.uc.low
  have gd : ∀ x, x ∈ own uv → g + 2 ≤ x := fun x hx => (hl x (by simpa [own] using hx)).1
  have dn := hc.heap h.dn (fun hm => by have := gd _ hm; omega)
  have up := hc.heap h.up (fun hm => by have := gd _ hm; omega)
  have dc := h.dc.chg hc (fun b hb2 hm => h.ap b hb2 (by simpa [own] using hm))
  refine ⟨heap_setCell_far dn (by omega) _, by simpa using heap_setCell_at (i := 1) up v', cls_store dc up, cls_store ho up, fun b h1 h2 => ?_, ?_⟩
  · rcases hb b h2 with h3 | h3
    · exact h.ap b h1 h3
    · have := (h.dc.low b h1).2; omega
  · exact (h.low.trans (hc.below (fun x hx => by have := gd x hx; omega) (Nat.le_of_lt (heap_lt h.dn)))).setCell (by simp) _
theorem Lo.start (w1 : World) : Lo w1 w1.heap.size 0 0 (.slice none 0 0) (.slice none 0 0) ((w1.alloc (.cells #[.string nameS, .slice none 0 0] 25)).alloc (.cells #[.string nameS, .slice none 0 0] 25)) :=
  ⟨heap_alloc_keep (heap_alloc_new w1 _) _, heap_alloc2_new w1 _ _, ClsOwn.nil _ _ _, ClsOwn.nil _ _ _, fun h h1 => by simp [Value.ownBlock] at h1, ((Below.refl w1.heap.size w1).alloc (Nat.le_refl _) _).alloc (by simp) _⟩
def LoR (w1 : World) (g k : Nat) (iv : Value) (z : World) : Prop := ∃ (i : Nat) (dv uv : Value), iv = .int .i64 (i : Int) ∧ i ≤ k ∧ Lo w1 g i i dv uv z
def TxR (y : World) (i : Nat) (tv : Value) (z : World) : Prop := tv = .string (bs (61 :: lD i)) ∧ Below y.heap.size y z

set_option maxRecDepth 20000 in
set_option maxHeartbeats 2000000 in
theorem chain_any (w : World) (hT : Env w) (x : Int) (hx0 : 0 ≤ x) (hx1 : x < 256) : Calls Tryz.prog 3 #[.int .u8 x] w fun e w' => e = .returned (.bool true) ∧ Below w.heap.size w w' := by
  obtain ⟨d, k, hd, hk, hk2, hk31⟩ : ∃ d k : Nat, (d : Int) = x % 30 ∧ k = d + 2 ∧ 2 ≤ k ∧ k ≤ 31 := ⟨(x % 30).toNat, (x % 30).toNat + 2, by omega, rfl, by omega, by omega⟩
  have e1 : x.tmod 30 = (d : Int) := by rw [Int.tmod_eq_emod_of_nonneg hx0]; omega
  have e1' : x % 30 = (d : Int) := hd.symm
  have e2 : IntKind.i64.wrap x = x := IntWalk.i64_in _ (by omega)
  have e3 : IntKind.i64.wrap (2 + (d : Int)) = (k : Int) := by rw [IntWalk.i64_in _ (by omega)]; omega
  have HEX := hid (Isl.examples_any w)
  have HT := hid hT
  clear hT hd hk
  go_enter Tryz.func3, Tryz.ntmps3
  go_wp2_with fail
  refine HEX.out.mono ?_
  rintro e w1 ⟨rfl, b1⟩
  have HB1 := hid b1
  have HL0 := hid (Lo.start w1)
  have hgl := b1.size
  clear b1 HEX
  go_wp2_with fail
  rename_i K hK
  have HC := hid hK
  clear hK e1 e1' e2 e3
  generalize w1.heap.size = g at HL0 hgl ⊢
  have HL0 : Hid (Lo w1 g 0 0 (.slice none 0 0) (.slice none 0 0) _) := HL0
  generalize World.alloc (World.alloc _ _) _ = w2 at HL0 ⊢
  go_loopw [7] (fun iv z => LoR w1 g k iv z) (fun iv _ => k - (RowKit.intOf iv).toNat)
  case atStart => exact ⟨0, _, _, rfl, Nat.zero_le _, HL0.out⟩
  case round =>
    obtain ⟨i, dv, uv, rfl, hi, L⟩ := hrel
    by_cases hik : i < k
    · have HL := hid L
      clear L
      go_upto_if 42 with fail
      go_cut [8] from 36 to 71 (fun tv z => TxR wr i tv z)
      case first =>
        by_cases h0 : i = 0
        · have h1 : ¬ (0 < (i : Int)) := by omega
          have RR := hid (show TxR wr i (.string ⟨#[61, 49]⟩) wr from ⟨by rw [h0]; rfl, Below.refl _ _⟩)
          clear h0
          go_wp2_with fail
          go_meet
          case rel => exact RR.out
        · have h1 : 0 < (i : Int) := by omega
          have HPI := hid (place_any i (by omega) (by omega) wr)
          have hsz : (bs (refB i)).size ≤ 3 := by rw [bs_size]; exact (by have := refB_len (n := i) (by omega); omega)
          have s1 : ¬ (9223372036854775807 < 1 + (bs (refB i)).size) := by omega
          have s2 : ¬ (9223372036854775807 < 1 + (bs (refB i)).size + 2) := by omega
          go_wp2_with fail
          refine HPI.out.mono ?_
          rintro e z1 ⟨rfl, b2⟩
          have RR := hid (show TxR wr i (.string ((⟨#[61]⟩ : ByteArray) ++ bs (refB i) ++ ⟨#[43, 49]⟩)) z1 from ⟨by
            unfold lD
            rw [if_neg h0, show (⟨#[61]⟩ : ByteArray) ++ bs (refB i) = bs (61 :: refB i) from bs_append [61] (refB i), show (⟨#[43, 49]⟩ : ByteArray) = bs [43, 49] from rfl, bs_append]
            rfl, b2⟩)
          clear b2 HPI
          go_wp2_with fail
          go_meet
          case rel => exact RR.out
      case rest =>
        obtain ⟨hu8, hb8⟩ := hcut
        subst hu8
        have L2 := HL.out.below hb8
        obtain ⟨da, dm, dc, rfl, hdm⟩ := L2.dc.view
        obtain rfl : i = dm := by rw [hdm, placesN_len]
        obtain ⟨ua, um, uc, rfl, hum⟩ := L2.uc.view
        obtain rfl : i = um := by rw [hum, placesN_len]
        obtain ⟨a1, c1, z2, happ, ho, hch, hbl⟩ := L2.dc.app (by have := heap_lt L2.up; omega) (m := i) (g := wc.heap.size) (placesN_len i).symm rfl (by omega) ((0 : Int), (i : Int), (0 : Int))
        rw [← placesN_succ] at ho
        have HAPP : (Builtin.append_ #[23, 23] 23 #[.slice da i dc, .slice (some ⟨wc.heap.size, 0, none⟩) 1 1]).run Tryz.prog (wc.alloc (.cells #[.int .i64 (i : Int), .int .i64 0, .string (bs (61 :: lD i))] 28)) = .ok (.slice a1 (i + 1) c1) z2 := happ
        have hdn := L2.dnD hch
        have q0 : wc.cell? ⟨g, 1, none⟩ = some (.slice da i dc) := cell_of L2.dn rfl
        have t0 : z2.cell? ⟨g, 1, none⟩ = some (.slice da i dc) := cell_of hdn rfl
        have f0 := free_of (i := 1) hdn
        have L3 := L2.putD hch ho hbl
        have HL3 := hid L3
        clear L2 L3 happ ho hch hbl hdn HL hb8 hdm hum
        go_wp2_with (at_builtin; refine wpList_append_run rfl _ _ _ rfl _ _ rfl rfl HAPP ?_)
        clear HAPP q0 t0 f0
        generalize World.setCell z2 _ _ = z3 at HL3 ⊢
        have HP2 := hid (fun w => show Calls Tryz.prog 5 #[.int .i64 ((i : Int) + 2)] w fun e w' => e = .returned (.string (bs (refB (i + 2)))) ∧ Below w.heap.size w w' from place_any (i + 2) (by omega) (by omega) w)
        have HP3 := hid (fun w => show Calls Tryz.prog 5 #[.int .i64 ((i : Int) + 3)] w fun e w' => e = .returned (.string (bs (refB (i + 3)))) ∧ Below w.heap.size w w' from place_any (i + 3) (by omega) (by omega) w)
        have g2 : IntKind.i64.wrap ((i : Int) + 2) = (i : Int) + 2 := IntWalk.i64_in _ (by omega)
        have g3 : IntKind.i64.wrap ((i : Int) + 3) = (i : Int) + 3 := IntWalk.i64_in _ (by omega)
        have hsz2 : (bs (refB (i + 2))).size ≤ 3 := by rw [bs_size]; exact (by have := refB_len (n := i + 2) (by omega); omega)
        have hsz3 : (bs (refB (i + 3))).size ≤ 3 := by rw [bs_size]; exact (by have := refB_len (n := i + 3) (by omega); omega)
        have s1 : ¬ (9223372036854775807 < 5 + (bs (refB (i + 2))).size) := by omega
        have s2 : ¬ (9223372036854775807 < 5 + (bs (refB (i + 2))).size + 1) := by omega
        have s3 : ¬ (9223372036854775807 < 5 + (bs (refB (i + 2))).size + 1 + (bs (refB (i + 3))).size) := by omega
        have s4 : ¬ (9223372036854775807 < 5 + (bs (refB (i + 2))).size + 1 + (bs (refB (i + 3))).size + 1) := by omega
        have HTX := hid (show (⟨#[61, 83, 85, 77, 40]⟩ : ByteArray) ++ bs (refB (i + 2)) ++ ⟨#[58]⟩ ++ bs (refB (i + 3)) ++ ⟨#[41]⟩ = bs (61 :: lU i) by
          rw [show (⟨#[61, 83, 85, 77, 40]⟩ : ByteArray) ++ bs (refB (i + 2)) = bs ([61, 83, 85, 77, 40] ++ refB (i + 2)) from bs_append [61, 83, 85, 77, 40] (refB (i + 2)), show (⟨#[58]⟩ : ByteArray) = bs [58] from rfl, show (⟨#[41]⟩ : ByteArray) = bs [41] from rfl, bs_append, bs_append, bs_append]
          unfold lU fSum
          simp)
        have HSF := hid (fun (z : World) (dv : Value) (j : Nat) (h : Lo w1 g j i dv (.slice ua i uc) z) => show z.cell? ⟨g + 1, 1, none⟩ = some (.slice ua i uc) from cell_of h.up rfl)
        have HLd := hid (HL3.out.below (Below.refl _ z3).drew)
        refine wp_region_held_drew (S := fun _ => True) (by kernel_rfl) trivial (fun hS => ?_)
        refine wpAnyH_take (i := 0) (oi := ⟨some 55, Op.fieldAddr 25 (Operand.tmp 6) 1, 0, "more.go:66", #[], none⟩) (v := ?_) rfl (by kernel_rfl) (by kernel_rfl) (by kernel_rfl) (fun _ _ _ h => h) (Or.inl ⟨by rfl, ?_⟩) hS ?_
        rotate_left 1
        · rintro wx -
          (go_simp <;> (try with_reducible rfl))
        try simp only [Act.put, List.setIfInBounds_toArray, List.set_cons_zero, List.set_cons_succ]
        refine wpAnyH_take (i := 2) (oi := ⟨some 57, Op.move (Operand.tmp 7), 3, "more.go:66", #[], none⟩) (v := ?_) rfl (by kernel_rfl) (by kernel_rfl) (by kernel_rfl) (fun _ _ _ h => h) (Or.inl ⟨by rfl, ?_⟩) hS ?_
        rotate_left 1
        · rintro wx -
          (go_simp <;> (try with_reducible rfl))
        try simp only [Act.put, List.setIfInBounds_toArray, List.set_cons_zero, List.set_cons_succ]
        refine wpAnyH_take (i := 3) (oi := ⟨some 58, Op.move (Operand.tmp 7), 3, "more.go:66", #[], none⟩) (v := ?_) rfl (by kernel_rfl) (by kernel_rfl) (by kernel_rfl) (fun _ _ _ h => h) (Or.inl ⟨by rfl, ?_⟩) hS ?_
        rotate_left 1
        · rintro wx -
          (go_simp <;> (try with_reducible rfl))
        try simp only [Act.put, List.setIfInBounds_toArray, List.set_cons_zero, List.set_cons_succ]
        refine wpAnyH_take (i := 4) (oi := ⟨some 59, Op.binOp BinOp.add 3 (Operand.tmp 58) (Operand.const (Value.int IntKind.i64 2)) 3, 3, "more.go:66", #[⟨3, .data⟩], none⟩) (v := ?_) rfl (by kernel_rfl) (by kernel_rfl) (by kernel_rfl) (fun _ _ _ h => h) (Or.inl ⟨by rfl, ?_⟩) hS ?_
        rotate_left 1
        · rintro wx -
          (go_simp <;> (try with_reducible rfl))
        try simp only [Act.put, List.setIfInBounds_toArray, List.set_cons_zero, List.set_cons_succ]
        refine wpAnyH_take (i := 8) (oi := ⟨some 63, Op.move (Operand.tmp 7), 3, "more.go:66", #[], none⟩) (v := ?_) rfl (by kernel_rfl) (by kernel_rfl) (by kernel_rfl) (fun _ _ _ h => h) (Or.inl ⟨by rfl, ?_⟩) hS ?_
        rotate_left 1
        · rintro wx -
          (go_simp <;> (try with_reducible rfl))
        try simp only [Act.put, List.setIfInBounds_toArray, List.set_cons_zero, List.set_cons_succ]
        refine wpAnyH_take (i := 9) (oi := ⟨some 64, Op.binOp BinOp.add 3 (Operand.tmp 63) (Operand.const (Value.int IntKind.i64 3)) 3, 3, "more.go:66", #[⟨8, .data⟩], none⟩) (v := ?_) rfl (by kernel_rfl) (by kernel_rfl) (by kernel_rfl) (fun _ _ _ h => h) (Or.inl ⟨by rfl, ?_⟩) hS ?_
        rotate_left 1
        · rintro wx -
          (go_simp <;> (try with_reducible rfl))
        try simp only [Act.put, List.setIfInBounds_toArray, List.set_cons_zero, List.set_cons_succ]
        generalize World.drew z3 = z4 at HLd ⊢
        refine wpAnyH_ready (rs := [1, 5]) (by kernel_rfl) (by simp) ?_
        refine AllReadyH.cons (o := ⟨some 56, Op.load 23 (Operand.tmp 55), 23, "more.go:66", #[⟨0, .data⟩], none⟩) rfl (fun K hK => ?_) ?_
        rotate_left 1
        refine AllReadyH.cons (o := ⟨some 60, Op.call { callee := Callee.value (Operand.func 5), args := #[Operand.tmp 59], argTypes := #[3] }, 9, "more.go:66", #[⟨4, .data⟩], none⟩) rfl (fun K hK => ?_) AllReadyH.nil
        · go_simp; refine (HP2.out _).mono ?_; rintro e z5 ⟨rfl, hb⟩; have HL5 := hid (HLd.out.below hb); clear hb
          refine hK.out _ _ trivial (fun hS2 => ?_)
          clear hK K hS
          revert hS2; intro hS
          try simp only [Act.put, List.setIfInBounds_toArray, List.set_cons_zero, List.set_cons_succ]
          refine wpAnyH_take (i := 6) (oi := ⟨some 61, Op.binOp BinOp.add 9 (Operand.const (Value.string { data := #[61, 83, 85, 77, 40] })) (Operand.tmp 60) 9, 9, "more.go:66", #[⟨5, .data⟩], none⟩) (v := ?_) rfl (by kernel_rfl) (by kernel_rfl) (by kernel_rfl) (fun _ _ _ h => h) (Or.inl ⟨by rfl, ?_⟩) hS ?_
          rotate_left 1
          · rintro wx -
            (go_simp <;> (try with_reducible rfl))
          try simp only [Act.put, List.setIfInBounds_toArray, List.set_cons_zero, List.set_cons_succ]
          refine wpAnyH_take (i := 7) (oi := ⟨some 62, Op.binOp BinOp.add 9 (Operand.tmp 61) (Operand.const (Value.string { data := #[58] })) 9, 9, "more.go:66", #[⟨6, .data⟩], none⟩) (v := ?_) rfl (by kernel_rfl) (by kernel_rfl) (by kernel_rfl) (fun _ _ _ h => h) (Or.inl ⟨by rfl, ?_⟩) hS ?_
          rotate_left 1
          · rintro wx -
            (go_simp <;> (try with_reducible rfl))
          try simp only [Act.put, List.setIfInBounds_toArray, List.set_cons_zero, List.set_cons_succ]
          refine wpAnyH_ready (rs := [1, 10]) (by kernel_rfl) (by simp) ?_
          refine AllReadyH.cons (o := ⟨some 56, Op.load 23 (Operand.tmp 55), 23, "more.go:66", #[⟨0, .data⟩], none⟩) rfl (fun K hK => ?_) ?_
          rotate_left 1
          refine AllReadyH.cons (o := ⟨some 65, Op.call { callee := Callee.value (Operand.func 5), args := #[Operand.tmp 64], argTypes := #[3] }, 9, "more.go:66", #[⟨9, .data⟩, ⟨5, .chain⟩], none⟩) rfl (fun K hK => ?_) AllReadyH.nil
          · go_simp; refine (HP3.out _).mono ?_; rintro e z6 ⟨rfl, hb⟩; have HL6 := hid (HL5.out.below hb); clear hb; obtain ⟨a2, c2, z7, happ, ho, hch, hbl⟩ := HL6.out.uc.app (by have := heap_lt HL6.out.up; omega) (m := i) (g := z6.heap.size) (placesN_len i).symm rfl (by omega) ((0 : Int), (i : Int), (0 : Int)); rw [← placesN_succ] at ho; have HAPP := hid (show (Builtin.append_ #[23, 23] 23 #[.slice ua i uc, .slice (some ⟨z6.heap.size, 0, none⟩) 1 1]).run Tryz.prog (z6.alloc (.cells #[.int .i64 (i : Int), .int .i64 0, .string (bs (61 :: lU i))] 28)) = .ok (.slice a2 (i + 1) c2) z7 from happ); have hup := HL6.out.upU hch; have q7 : z7.cell? ⟨g + 1, 1, none⟩ = some (.slice ua i uc) := cell_of hup rfl; have f7 := free_of (i := 1) hup; have HL8 := hid (HL6.out.putU hch ho hbl); have HLA := hid (HL6.out.below ((Below.refl _ z6).alloc (Nat.le_refl _) (.cells #[.int .i64 (i : Int), .int .i64 0, .string (bs (61 :: lU i))] 28))); clear happ ho hch hbl hup
            refine hK.out _ _ trivial (fun hS2 => ?_)
            clear hK K hS
            revert hS2; intro hS
            try simp only [Act.put, List.setIfInBounds_toArray, List.set_cons_zero, List.set_cons_succ]
            refine wpAnyH_take (i := 11) (oi := ⟨some 66, Op.binOp BinOp.add 9 (Operand.tmp 62) (Operand.tmp 65) 9, 9, "more.go:66", #[⟨7, .data⟩, ⟨10, .data⟩], none⟩) (v := ?_) rfl (by kernel_rfl) (by kernel_rfl) (by kernel_rfl) (fun _ _ _ h => h) (Or.inl ⟨by rfl, ?_⟩) hS ?_
            rotate_left 1
            · rintro wx -
              (go_simp <;> (try with_reducible rfl))
            try simp only [Act.put, List.setIfInBounds_toArray, List.set_cons_zero, List.set_cons_succ]
            refine wpAnyH_take (i := 12) (oi := ⟨some 67, Op.binOp BinOp.add 9 (Operand.tmp 66) (Operand.const (Value.string { data := #[41] })) 9, 9, "more.go:66", #[⟨11, .data⟩], none⟩) (v := ?_) rfl (by kernel_rfl) (by kernel_rfl) (by kernel_rfl) (fun _ _ _ h => h) (Or.inl ⟨by rfl, ?_⟩) hS ?_
            rotate_left 1
            · rintro wx -
              (go_simp <;> (try with_reducible rfl))
            try simp only [Act.put, List.setIfInBounds_toArray, List.set_cons_zero, List.set_cons_succ]
            rw [HTX.out]
            refine wpAnyH_take (i := 13) (oi := ⟨some 68, Op.build 28 #[(0, Operand.tmp 57), (2, Operand.tmp 67)], 28, "more.go:66", #[⟨2, .data⟩, ⟨12, .data⟩], none⟩) (v := ?_) rfl (by kernel_rfl) (by kernel_rfl) (by kernel_rfl) (fun _ _ _ h => h) (Or.inl ⟨by rfl, ?_⟩) hS ?_
            rotate_left 1
            · rintro wx -
              (go_simp <;> (try with_reducible rfl))
            try simp only [Act.put, List.setIfInBounds_toArray, List.set_cons_zero, List.set_cons_succ]
            refine wpAnyH_ready (rs := [1, 14]) (by kernel_rfl) (by simp) ?_
            refine AllReadyH.cons (o := ⟨some 56, Op.load 23 (Operand.tmp 55), 23, "more.go:66", #[⟨0, .data⟩], none⟩) rfl (fun K hK => ?_) ?_
            rotate_left 1
            refine AllReadyH.cons (o := ⟨some 69, Op.buildSlice 23 1 #[(0, Operand.tmp 68)], 23, "more.go:66", #[⟨13, .data⟩], none⟩) rfl (fun K hK => ?_) AllReadyH.nil
            · go_simp
              refine hK.out _ _ trivial (fun hS2 => ?_)
              clear hK K hS
              revert hS2; intro hS
              try simp only [Act.put, List.setIfInBounds_toArray, List.set_cons_zero, List.set_cons_succ]
              refine wpAnyH_ready (rs := [1]) (by kernel_rfl) (by simp) ?_
              refine AllReadyH.cons (o := ⟨some 56, Op.load 23 (Operand.tmp 55), 23, "more.go:66", #[⟨0, .data⟩], none⟩) rfl (fun K hK => ?_) AllReadyH.nil
              have q := HSF.out _ _ _ HLA.out; go_simp; clear q
              refine hK.out _ _ trivial (fun hS2 => ?_)
              clear hK K hS
              revert hS2; intro hS
              try simp only [Act.put, List.setIfInBounds_toArray, List.set_cons_zero, List.set_cons_succ]
              refine wpAnyH_ready (rs := [15]) (by kernel_rfl) (by simp) ?_
              refine AllReadyH.cons (o := ⟨some 70, Op.call { callee := Callee.builtin Builtin.append, args := #[Operand.tmp 56, Operand.tmp 69], argTypes := #[23, 23] }, 23, "more.go:66", #[⟨1, .data⟩, ⟨14, .data⟩, ⟨10, .chain⟩], none⟩) rfl (fun K hK => ?_) AllReadyH.nil
              refine Isl.step_append_run rfl (.tmp 56) (.tmp 69) 23 rfl _ _ (by simp [Act.eval]) (by simp [Act.eval]) HAPP.out ?_
              refine hK.out _ _ trivial (fun hS2 => ?_)
              clear hK K hS
              revert hS2; intro hS
              try simp only [Act.put, List.setIfInBounds_toArray, List.set_cons_zero, List.set_cons_succ]
              refine wpAnyH_take (i := 16) (oi := ⟨some 71, Op.fieldAddr 25 (Operand.tmp 6) 1, 0, "more.go:66", #[⟨0, .phase⟩, ⟨1, .phase⟩, ⟨2, .phase⟩, ⟨3, .phase⟩, ⟨4, .phase⟩, ⟨5, .phase⟩, ⟨6, .phase⟩, ⟨7, .phase⟩, ⟨8, .phase⟩, ⟨9, .phase⟩, ⟨10, .phase⟩, ⟨11, .phase⟩, ⟨12, .phase⟩, ⟨13, .phase⟩, ⟨14, .phase⟩, ⟨15, .phase⟩], none⟩) (v := ?_) rfl (by kernel_rfl) (by kernel_rfl) (by kernel_rfl) (fun _ _ _ h => h) (Or.inl ⟨by rfl, ?_⟩) hS ?_
              rotate_left 1
              · rintro wx -
                (go_simp <;> (try with_reducible rfl))
              try simp only [Act.put, List.setIfInBounds_toArray, List.set_cons_zero, List.set_cons_succ]
              refine wpAnyH_ready (rs := [17]) (by kernel_rfl) (by simp) ?_
              refine AllReadyH.cons (o := ⟨none, Op.store 23 (Operand.tmp 71) (Operand.tmp 70), 0, "more.go:66", #[⟨16, .data⟩, ⟨15, .data⟩, ⟨15, .chain⟩, ⟨0, .phase⟩, ⟨1, .phase⟩, ⟨2, .phase⟩, ⟨3, .phase⟩, ⟨4, .phase⟩, ⟨5, .phase⟩, ⟨6, .phase⟩, ⟨7, .phase⟩, ⟨8, .phase⟩, ⟨9, .phase⟩, ⟨10, .phase⟩, ⟨11, .phase⟩, ⟨12, .phase⟩, ⟨13, .phase⟩, ⟨14, .phase⟩, ⟨15, .phase⟩], none⟩) rfl (fun K hK => ?_) AllReadyH.nil
              go_simp
              refine hK.out _ _ trivial (fun hS2 => ?_)
              clear hK K hS
              revert hS2; intro hS
              try simp only [Act.put, List.setIfInBounds_toArray, List.set_cons_zero, List.set_cons_succ]
              refine wpAnyH_done (by kernel_rfl) ?_ _
              clear q7 f7 HAPP HLA HP2 HP3
              generalize World.setCell z7 _ _ = z8 at HL8 ⊢
              go_wp2_with fail
              go_roundw
              case rel => exact ⟨i + 1, _, _, by simp, by omega, HL8.out⟩
              case measure => simp [RowKit.intOf]; omega
            · have q := HSF.out _ _ _ HL6.out; go_simp; clear q
              refine hK.out _ _ trivial (fun hS2 => ?_)
              clear hK K hS
              revert hS2; intro hS
              try simp only [Act.put, List.setIfInBounds_toArray, List.set_cons_zero, List.set_cons_succ]
              refine wpAnyH_ready (rs := [14]) (by kernel_rfl) (by simp) ?_
              refine AllReadyH.cons (o := ⟨some 69, Op.buildSlice 23 1 #[(0, Operand.tmp 68)], 23, "more.go:66", #[⟨13, .data⟩], none⟩) rfl (fun K hK => ?_) AllReadyH.nil
              go_simp
              refine hK.out _ _ trivial (fun hS2 => ?_)
              clear hK K hS
              revert hS2; intro hS
              try simp only [Act.put, List.setIfInBounds_toArray, List.set_cons_zero, List.set_cons_succ]
              refine wpAnyH_ready (rs := [15]) (by kernel_rfl) (by simp) ?_
              refine AllReadyH.cons (o := ⟨some 70, Op.call { callee := Callee.builtin Builtin.append, args := #[Operand.tmp 56, Operand.tmp 69], argTypes := #[23, 23] }, 23, "more.go:66", #[⟨1, .data⟩, ⟨14, .data⟩, ⟨10, .chain⟩], none⟩) rfl (fun K hK => ?_) AllReadyH.nil
              refine Isl.step_append_run rfl (.tmp 56) (.tmp 69) 23 rfl _ _ (by simp [Act.eval]) (by simp [Act.eval]) HAPP.out ?_
              refine hK.out _ _ trivial (fun hS2 => ?_)
              clear hK K hS
              revert hS2; intro hS
              try simp only [Act.put, List.setIfInBounds_toArray, List.set_cons_zero, List.set_cons_succ]
              refine wpAnyH_take (i := 16) (oi := ⟨some 71, Op.fieldAddr 25 (Operand.tmp 6) 1, 0, "more.go:66", #[⟨0, .phase⟩, ⟨1, .phase⟩, ⟨2, .phase⟩, ⟨3, .phase⟩, ⟨4, .phase⟩, ⟨5, .phase⟩, ⟨6, .phase⟩, ⟨7, .phase⟩, ⟨8, .phase⟩, ⟨9, .phase⟩, ⟨10, .phase⟩, ⟨11, .phase⟩, ⟨12, .phase⟩, ⟨13, .phase⟩, ⟨14, .phase⟩, ⟨15, .phase⟩], none⟩) (v := ?_) rfl (by kernel_rfl) (by kernel_rfl) (by kernel_rfl) (fun _ _ _ h => h) (Or.inl ⟨by rfl, ?_⟩) hS ?_
              rotate_left 1
              · rintro wx -
                (go_simp <;> (try with_reducible rfl))
              try simp only [Act.put, List.setIfInBounds_toArray, List.set_cons_zero, List.set_cons_succ]
              refine wpAnyH_ready (rs := [17]) (by kernel_rfl) (by simp) ?_
              refine AllReadyH.cons (o := ⟨none, Op.store 23 (Operand.tmp 71) (Operand.tmp 70), 0, "more.go:66", #[⟨16, .data⟩, ⟨15, .data⟩, ⟨15, .chain⟩, ⟨0, .phase⟩, ⟨1, .phase⟩, ⟨2, .phase⟩, ⟨3, .phase⟩, ⟨4, .phase⟩, ⟨5, .phase⟩, ⟨6, .phase⟩, ⟨7, .phase⟩, ⟨8, .phase⟩, ⟨9, .phase⟩, ⟨10, .phase⟩, ⟨11, .phase⟩, ⟨12, .phase⟩, ⟨13, .phase⟩, ⟨14, .phase⟩, ⟨15, .phase⟩], none⟩) rfl (fun K hK => ?_) AllReadyH.nil
              go_simp
              refine hK.out _ _ trivial (fun hS2 => ?_)
              clear hK K hS
              revert hS2; intro hS
              try simp only [Act.put, List.setIfInBounds_toArray, List.set_cons_zero, List.set_cons_succ]
              refine wpAnyH_done (by kernel_rfl) ?_ _
              clear q7 f7 HAPP HLA HP2 HP3
              generalize World.setCell z7 _ _ = z8 at HL8 ⊢
              go_wp2_with fail
              go_roundw
              case rel => exact ⟨i + 1, _, _, by simp, by omega, HL8.out⟩
              case measure => simp [RowKit.intOf]; omega
          · have q := HSF.out _ _ _ HL5.out; go_simp; clear q
            refine hK.out _ _ trivial (fun hS2 => ?_)
            clear hK K hS
            revert hS2; intro hS
            try simp only [Act.put, List.setIfInBounds_toArray, List.set_cons_zero, List.set_cons_succ]
            refine wpAnyH_ready (rs := [10]) (by kernel_rfl) (by simp) ?_
            refine AllReadyH.cons (o := ⟨some 65, Op.call { callee := Callee.value (Operand.func 5), args := #[Operand.tmp 64], argTypes := #[3] }, 9, "more.go:66", #[⟨9, .data⟩, ⟨5, .chain⟩], none⟩) rfl (fun K hK => ?_) AllReadyH.nil
            go_simp; refine (HP3.out _).mono ?_; rintro e z6 ⟨rfl, hb⟩; have HL6 := hid (HL5.out.below hb); clear hb; obtain ⟨a2, c2, z7, happ, ho, hch, hbl⟩ := HL6.out.uc.app (by have := heap_lt HL6.out.up; omega) (m := i) (g := z6.heap.size) (placesN_len i).symm rfl (by omega) ((0 : Int), (i : Int), (0 : Int)); rw [← placesN_succ] at ho; have HAPP := hid (show (Builtin.append_ #[23, 23] 23 #[.slice ua i uc, .slice (some ⟨z6.heap.size, 0, none⟩) 1 1]).run Tryz.prog (z6.alloc (.cells #[.int .i64 (i : Int), .int .i64 0, .string (bs (61 :: lU i))] 28)) = .ok (.slice a2 (i + 1) c2) z7 from happ); have hup := HL6.out.upU hch; have q7 : z7.cell? ⟨g + 1, 1, none⟩ = some (.slice ua i uc) := cell_of hup rfl; have f7 := free_of (i := 1) hup; have HL8 := hid (HL6.out.putU hch ho hbl); have HLA := hid (HL6.out.below ((Below.refl _ z6).alloc (Nat.le_refl _) (.cells #[.int .i64 (i : Int), .int .i64 0, .string (bs (61 :: lU i))] 28))); clear happ ho hch hbl hup
            refine hK.out _ _ trivial (fun hS2 => ?_)
            clear hK K hS
            revert hS2; intro hS
            try simp only [Act.put, List.setIfInBounds_toArray, List.set_cons_zero, List.set_cons_succ]
            refine wpAnyH_take (i := 11) (oi := ⟨some 66, Op.binOp BinOp.add 9 (Operand.tmp 62) (Operand.tmp 65) 9, 9, "more.go:66", #[⟨7, .data⟩, ⟨10, .data⟩], none⟩) (v := ?_) rfl (by kernel_rfl) (by kernel_rfl) (by kernel_rfl) (fun _ _ _ h => h) (Or.inl ⟨by rfl, ?_⟩) hS ?_
            rotate_left 1
            · rintro wx -
              (go_simp <;> (try with_reducible rfl))
            try simp only [Act.put, List.setIfInBounds_toArray, List.set_cons_zero, List.set_cons_succ]
            refine wpAnyH_take (i := 12) (oi := ⟨some 67, Op.binOp BinOp.add 9 (Operand.tmp 66) (Operand.const (Value.string { data := #[41] })) 9, 9, "more.go:66", #[⟨11, .data⟩], none⟩) (v := ?_) rfl (by kernel_rfl) (by kernel_rfl) (by kernel_rfl) (fun _ _ _ h => h) (Or.inl ⟨by rfl, ?_⟩) hS ?_
            rotate_left 1
            · rintro wx -
              (go_simp <;> (try with_reducible rfl))
            try simp only [Act.put, List.setIfInBounds_toArray, List.set_cons_zero, List.set_cons_succ]
            rw [HTX.out]
            refine wpAnyH_take (i := 13) (oi := ⟨some 68, Op.build 28 #[(0, Operand.tmp 57), (2, Operand.tmp 67)], 28, "more.go:66", #[⟨2, .data⟩, ⟨12, .data⟩], none⟩) (v := ?_) rfl (by kernel_rfl) (by kernel_rfl) (by kernel_rfl) (fun _ _ _ h => h) (Or.inl ⟨by rfl, ?_⟩) hS ?_
            rotate_left 1
            · rintro wx -
              (go_simp <;> (try with_reducible rfl))
            try simp only [Act.put, List.setIfInBounds_toArray, List.set_cons_zero, List.set_cons_succ]
            refine wpAnyH_ready (rs := [14]) (by kernel_rfl) (by simp) ?_
            refine AllReadyH.cons (o := ⟨some 69, Op.buildSlice 23 1 #[(0, Operand.tmp 68)], 23, "more.go:66", #[⟨13, .data⟩], none⟩) rfl (fun K hK => ?_) AllReadyH.nil
            go_simp
            refine hK.out _ _ trivial (fun hS2 => ?_)
            clear hK K hS
            revert hS2; intro hS
            try simp only [Act.put, List.setIfInBounds_toArray, List.set_cons_zero, List.set_cons_succ]
            refine wpAnyH_ready (rs := [15]) (by kernel_rfl) (by simp) ?_
            refine AllReadyH.cons (o := ⟨some 70, Op.call { callee := Callee.builtin Builtin.append, args := #[Operand.tmp 56, Operand.tmp 69], argTypes := #[23, 23] }, 23, "more.go:66", #[⟨1, .data⟩, ⟨14, .data⟩, ⟨10, .chain⟩], none⟩) rfl (fun K hK => ?_) AllReadyH.nil
            refine Isl.step_append_run rfl (.tmp 56) (.tmp 69) 23 rfl _ _ (by simp [Act.eval]) (by simp [Act.eval]) HAPP.out ?_
            refine hK.out _ _ trivial (fun hS2 => ?_)
            clear hK K hS
            revert hS2; intro hS
            try simp only [Act.put, List.setIfInBounds_toArray, List.set_cons_zero, List.set_cons_succ]
            refine wpAnyH_take (i := 16) (oi := ⟨some 71, Op.fieldAddr 25 (Operand.tmp 6) 1, 0, "more.go:66", #[⟨0, .phase⟩, ⟨1, .phase⟩, ⟨2, .phase⟩, ⟨3, .phase⟩, ⟨4, .phase⟩, ⟨5, .phase⟩, ⟨6, .phase⟩, ⟨7, .phase⟩, ⟨8, .phase⟩, ⟨9, .phase⟩, ⟨10, .phase⟩, ⟨11, .phase⟩, ⟨12, .phase⟩, ⟨13, .phase⟩, ⟨14, .phase⟩, ⟨15, .phase⟩], none⟩) (v := ?_) rfl (by kernel_rfl) (by kernel_rfl) (by kernel_rfl) (fun _ _ _ h => h) (Or.inl ⟨by rfl, ?_⟩) hS ?_
            rotate_left 1
            · rintro wx -
              (go_simp <;> (try with_reducible rfl))
            try simp only [Act.put, List.setIfInBounds_toArray, List.set_cons_zero, List.set_cons_succ]
            refine wpAnyH_ready (rs := [17]) (by kernel_rfl) (by simp) ?_
            refine AllReadyH.cons (o := ⟨none, Op.store 23 (Operand.tmp 71) (Operand.tmp 70), 0, "more.go:66", #[⟨16, .data⟩, ⟨15, .data⟩, ⟨15, .chain⟩, ⟨0, .phase⟩, ⟨1, .phase⟩, ⟨2, .phase⟩, ⟨3, .phase⟩, ⟨4, .phase⟩, ⟨5, .phase⟩, ⟨6, .phase⟩, ⟨7, .phase⟩, ⟨8, .phase⟩, ⟨9, .phase⟩, ⟨10, .phase⟩, ⟨11, .phase⟩, ⟨12, .phase⟩, ⟨13, .phase⟩, ⟨14, .phase⟩, ⟨15, .phase⟩], none⟩) rfl (fun K hK => ?_) AllReadyH.nil
            go_simp
            refine hK.out _ _ trivial (fun hS2 => ?_)
            clear hK K hS
            revert hS2; intro hS
            try simp only [Act.put, List.setIfInBounds_toArray, List.set_cons_zero, List.set_cons_succ]
            refine wpAnyH_done (by kernel_rfl) ?_ _
            clear q7 f7 HAPP HLA HP2 HP3
            generalize World.setCell z7 _ _ = z8 at HL8 ⊢
            go_wp2_with fail
            go_roundw
            case rel => exact ⟨i + 1, _, _, by simp, by omega, HL8.out⟩
            case measure => simp [RowKit.intOf]; omega
        · have q := HSF.out _ _ _ HLd.out; go_simp; clear q
          refine hK.out _ _ trivial (fun hS2 => ?_)
          clear hK K hS
          revert hS2; intro hS
          try simp only [Act.put, List.setIfInBounds_toArray, List.set_cons_zero, List.set_cons_succ]
          refine wpAnyH_ready (rs := [5]) (by kernel_rfl) (by simp) ?_
          refine AllReadyH.cons (o := ⟨some 60, Op.call { callee := Callee.value (Operand.func 5), args := #[Operand.tmp 59], argTypes := #[3] }, 9, "more.go:66", #[⟨4, .data⟩], none⟩) rfl (fun K hK => ?_) AllReadyH.nil
          go_simp; refine (HP2.out _).mono ?_; rintro e z5 ⟨rfl, hb⟩; have HL5 := hid (HLd.out.below hb); clear hb
          refine hK.out _ _ trivial (fun hS2 => ?_)
          clear hK K hS
          revert hS2; intro hS
          try simp only [Act.put, List.setIfInBounds_toArray, List.set_cons_zero, List.set_cons_succ]
          refine wpAnyH_take (i := 6) (oi := ⟨some 61, Op.binOp BinOp.add 9 (Operand.const (Value.string { data := #[61, 83, 85, 77, 40] })) (Operand.tmp 60) 9, 9, "more.go:66", #[⟨5, .data⟩], none⟩) (v := ?_) rfl (by kernel_rfl) (by kernel_rfl) (by kernel_rfl) (fun _ _ _ h => h) (Or.inl ⟨by rfl, ?_⟩) hS ?_
          rotate_left 1
          · rintro wx -
            (go_simp <;> (try with_reducible rfl))
          try simp only [Act.put, List.setIfInBounds_toArray, List.set_cons_zero, List.set_cons_succ]
          refine wpAnyH_take (i := 7) (oi := ⟨some 62, Op.binOp BinOp.add 9 (Operand.tmp 61) (Operand.const (Value.string { data := #[58] })) 9, 9, "more.go:66", #[⟨6, .data⟩], none⟩) (v := ?_) rfl (by kernel_rfl) (by kernel_rfl) (by kernel_rfl) (fun _ _ _ h => h) (Or.inl ⟨by rfl, ?_⟩) hS ?_
          rotate_left 1
          · rintro wx -
            (go_simp <;> (try with_reducible rfl))
          try simp only [Act.put, List.setIfInBounds_toArray, List.set_cons_zero, List.set_cons_succ]
          refine wpAnyH_ready (rs := [10]) (by kernel_rfl) (by simp) ?_
          refine AllReadyH.cons (o := ⟨some 65, Op.call { callee := Callee.value (Operand.func 5), args := #[Operand.tmp 64], argTypes := #[3] }, 9, "more.go:66", #[⟨9, .data⟩, ⟨5, .chain⟩], none⟩) rfl (fun K hK => ?_) AllReadyH.nil
          go_simp; refine (HP3.out _).mono ?_; rintro e z6 ⟨rfl, hb⟩; have HL6 := hid (HL5.out.below hb); clear hb; obtain ⟨a2, c2, z7, happ, ho, hch, hbl⟩ := HL6.out.uc.app (by have := heap_lt HL6.out.up; omega) (m := i) (g := z6.heap.size) (placesN_len i).symm rfl (by omega) ((0 : Int), (i : Int), (0 : Int)); rw [← placesN_succ] at ho; have HAPP := hid (show (Builtin.append_ #[23, 23] 23 #[.slice ua i uc, .slice (some ⟨z6.heap.size, 0, none⟩) 1 1]).run Tryz.prog (z6.alloc (.cells #[.int .i64 (i : Int), .int .i64 0, .string (bs (61 :: lU i))] 28)) = .ok (.slice a2 (i + 1) c2) z7 from happ); have hup := HL6.out.upU hch; have q7 : z7.cell? ⟨g + 1, 1, none⟩ = some (.slice ua i uc) := cell_of hup rfl; have f7 := free_of (i := 1) hup; have HL8 := hid (HL6.out.putU hch ho hbl); have HLA := hid (HL6.out.below ((Below.refl _ z6).alloc (Nat.le_refl _) (.cells #[.int .i64 (i : Int), .int .i64 0, .string (bs (61 :: lU i))] 28))); clear happ ho hch hbl hup
          refine hK.out _ _ trivial (fun hS2 => ?_)
          clear hK K hS
          revert hS2; intro hS
          try simp only [Act.put, List.setIfInBounds_toArray, List.set_cons_zero, List.set_cons_succ]
          refine wpAnyH_take (i := 11) (oi := ⟨some 66, Op.binOp BinOp.add 9 (Operand.tmp 62) (Operand.tmp 65) 9, 9, "more.go:66", #[⟨7, .data⟩, ⟨10, .data⟩], none⟩) (v := ?_) rfl (by kernel_rfl) (by kernel_rfl) (by kernel_rfl) (fun _ _ _ h => h) (Or.inl ⟨by rfl, ?_⟩) hS ?_
          rotate_left 1
          · rintro wx -
            (go_simp <;> (try with_reducible rfl))
          try simp only [Act.put, List.setIfInBounds_toArray, List.set_cons_zero, List.set_cons_succ]
          refine wpAnyH_take (i := 12) (oi := ⟨some 67, Op.binOp BinOp.add 9 (Operand.tmp 66) (Operand.const (Value.string { data := #[41] })) 9, 9, "more.go:66", #[⟨11, .data⟩], none⟩) (v := ?_) rfl (by kernel_rfl) (by kernel_rfl) (by kernel_rfl) (fun _ _ _ h => h) (Or.inl ⟨by rfl, ?_⟩) hS ?_
          rotate_left 1
          · rintro wx -
            (go_simp <;> (try with_reducible rfl))
          try simp only [Act.put, List.setIfInBounds_toArray, List.set_cons_zero, List.set_cons_succ]
          rw [HTX.out]
          refine wpAnyH_take (i := 13) (oi := ⟨some 68, Op.build 28 #[(0, Operand.tmp 57), (2, Operand.tmp 67)], 28, "more.go:66", #[⟨2, .data⟩, ⟨12, .data⟩], none⟩) (v := ?_) rfl (by kernel_rfl) (by kernel_rfl) (by kernel_rfl) (fun _ _ _ h => h) (Or.inl ⟨by rfl, ?_⟩) hS ?_
          rotate_left 1
          · rintro wx -
            (go_simp <;> (try with_reducible rfl))
          try simp only [Act.put, List.setIfInBounds_toArray, List.set_cons_zero, List.set_cons_succ]
          refine wpAnyH_ready (rs := [14]) (by kernel_rfl) (by simp) ?_
          refine AllReadyH.cons (o := ⟨some 69, Op.buildSlice 23 1 #[(0, Operand.tmp 68)], 23, "more.go:66", #[⟨13, .data⟩], none⟩) rfl (fun K hK => ?_) AllReadyH.nil
          go_simp
          refine hK.out _ _ trivial (fun hS2 => ?_)
          clear hK K hS
          revert hS2; intro hS
          try simp only [Act.put, List.setIfInBounds_toArray, List.set_cons_zero, List.set_cons_succ]
          refine wpAnyH_ready (rs := [15]) (by kernel_rfl) (by simp) ?_
          refine AllReadyH.cons (o := ⟨some 70, Op.call { callee := Callee.builtin Builtin.append, args := #[Operand.tmp 56, Operand.tmp 69], argTypes := #[23, 23] }, 23, "more.go:66", #[⟨1, .data⟩, ⟨14, .data⟩, ⟨10, .chain⟩], none⟩) rfl (fun K hK => ?_) AllReadyH.nil
          refine Isl.step_append_run rfl (.tmp 56) (.tmp 69) 23 rfl _ _ (by simp [Act.eval]) (by simp [Act.eval]) HAPP.out ?_
          refine hK.out _ _ trivial (fun hS2 => ?_)
          clear hK K hS
          revert hS2; intro hS
          try simp only [Act.put, List.setIfInBounds_toArray, List.set_cons_zero, List.set_cons_succ]
          refine wpAnyH_take (i := 16) (oi := ⟨some 71, Op.fieldAddr 25 (Operand.tmp 6) 1, 0, "more.go:66", #[⟨0, .phase⟩, ⟨1, .phase⟩, ⟨2, .phase⟩, ⟨3, .phase⟩, ⟨4, .phase⟩, ⟨5, .phase⟩, ⟨6, .phase⟩, ⟨7, .phase⟩, ⟨8, .phase⟩, ⟨9, .phase⟩, ⟨10, .phase⟩, ⟨11, .phase⟩, ⟨12, .phase⟩, ⟨13, .phase⟩, ⟨14, .phase⟩, ⟨15, .phase⟩], none⟩) (v := ?_) rfl (by kernel_rfl) (by kernel_rfl) (by kernel_rfl) (fun _ _ _ h => h) (Or.inl ⟨by rfl, ?_⟩) hS ?_
          rotate_left 1
          · rintro wx -
            (go_simp <;> (try with_reducible rfl))
          try simp only [Act.put, List.setIfInBounds_toArray, List.set_cons_zero, List.set_cons_succ]
          refine wpAnyH_ready (rs := [17]) (by kernel_rfl) (by simp) ?_
          refine AllReadyH.cons (o := ⟨none, Op.store 23 (Operand.tmp 71) (Operand.tmp 70), 0, "more.go:66", #[⟨16, .data⟩, ⟨15, .data⟩, ⟨15, .chain⟩, ⟨0, .phase⟩, ⟨1, .phase⟩, ⟨2, .phase⟩, ⟨3, .phase⟩, ⟨4, .phase⟩, ⟨5, .phase⟩, ⟨6, .phase⟩, ⟨7, .phase⟩, ⟨8, .phase⟩, ⟨9, .phase⟩, ⟨10, .phase⟩, ⟨11, .phase⟩, ⟨12, .phase⟩, ⟨13, .phase⟩, ⟨14, .phase⟩, ⟨15, .phase⟩], none⟩) rfl (fun K hK => ?_) AllReadyH.nil
          go_simp
          refine hK.out _ _ trivial (fun hS2 => ?_)
          clear hK K hS
          revert hS2; intro hS
          try simp only [Act.put, List.setIfInBounds_toArray, List.set_cons_zero, List.set_cons_succ]
          refine wpAnyH_done (by kernel_rfl) ?_ _
          clear q7 f7 HAPP HLA HP2 HP3
          generalize World.setCell z7 _ _ = z8 at HL8 ⊢
          go_wp2_with fail
          go_roundw
          case rel => exact ⟨i + 1, _, _, by simp, by omega, HL8.out⟩
          case measure => simp [RowKit.intOf]; omega
    · obtain rfl : i = k := by omega
      have HL := hid L
      clear L
      go_wp2_with fail
      refine HC.out _ _ ?_
      have hw3 : Below w.heap.size w wr := HB1.out.trans (HL.out.low.mono hgl)
      exact tail7 (HT.out.below hw3) hk2 hk31 HL.out.dn HL.out.up HL.out.dc.read HL.out.uc.read hw3
end Go.Proofs.YtpcjfgihglfdgaaGreatDoor
