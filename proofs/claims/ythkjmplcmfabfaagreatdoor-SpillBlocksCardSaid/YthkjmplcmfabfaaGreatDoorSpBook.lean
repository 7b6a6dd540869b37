/- Contract of the law's SpillBook. No condition. -/
import Derived.Test.YthkjmplcmfabfaaGreatDoorSpAtsW
import Derived.Test.YthkjmplcmfabfaaGreatDoorSpCells
namespace Go.Proofs.YthkjmplcmfabfaaGreatDoor
open Go.RowKit Go.Lib

theorem step_append_run {P : Program} {ops : Array Oper} {o : Oper} {a : Act} {w : World} {K : Act → World → Prop} {Q : Exit → Act → World → Prop} {E : Prop}
    (hg : o.guard = none) (s x : Operand) (t : TypeId) (hop : o.op = Op.call { callee := Callee.builtin Builtin.append, args := #[s, x], argTypes := #[t, t] })
    (v u : Value) (hs : a.eval s = v) (hx : a.eval x = u) {v' : Value} {w' : World} (hrun : (Builtin.append_ #[t, t] o.type #[v, u]).run P w = .ok v' w') (hK : K (a.put o.dst v') w') :
    if Region.wanted o (yielded ops a.tmps) = true then Oper.wp P o a w K Q else E := by
  have hw : Region.wanted o (yielded ops a.tmps) = true := by simp [Region.wanted, hg]
  rw [if_pos hw]
  unfold Oper.wp
  simp [execOp, hop, resolve, invoke, builtin, hs, hx, hrun, Result.andThen]
  exact hK

def one1 : PAt → ByteArray := fun _ => text1
theorem onSheet_next {A : List PAt} {j : Nat} {p : PAt} (hp : A[j]? = some p) (s : Int) : onSheet (A.take (j + 1)) s = onSheet (A.take j) s ++ (if p.1 = s then [p] else []) := by
  obtain ⟨hk, e⟩ := List.getElem?_eq_some_iff.1 hp
  unfold onSheet
  rw [List.take_succ_eq_append_getElem hk, e, List.filter_append]
  congr 1
  by_cases h : p.1 = s <;> simp [h]
theorem mem_own' {v : Value} {g : Nat} (h : g ∈ own v) : v.ownBlock = some g := by simpa [own] using h

/-- the workbook while it is made -/
structure Sb (w : World) (B : Nat) (l0 l1 : List PAt) (u0 u1 v0 v1 : Value) (y : World) : Prop where
  res : y.heap[w.heap.size]? = some (.cells #[.slice none 0 0, .slice none 0 0, .slice none 0 0, .slice none 0 0] 30 (0, 0))
  sheets : y.heap[w.heap.size + 1]? = some (.cells #[.string nameS, u0, .string nameT, u1] 55 (0, 0))
  book : y.heap[w.heap.size + 1 + 1]? = some (.cells #[.slice (some ⟨w.heap.size + 1, 0, none⟩) 2 2, .slice none 0 0, .slice none 0 0, .slice none 0 0] 30 (0, 0))
  c0 : ClsOwn y B v0 one1 l0
  c1 : ClsOwn y B v1 one1 l1
  ne : ∀ g, v0.ownBlock = some g → v1.ownBlock ≠ some g
  low : Below w.heap.size w y
  lo0 : w.heap.size + 3 ≤ B
  lo : B ≤ B
  size : B ≤ y.heap.size
section
variable {w y z : World} {B : Nat} {l0 l1 : List PAt} {u0 u1 v0 v1 : Value}
theorem Sb.keep (h : Sb w B l0 l1 u0 u1 v0 v1 y) (hb : Below y.heap.size y z) : Sb w B l0 l1 u0 u1 v0 v1 z :=
  ⟨(hb.block _ (heap_lt h.res)).trans h.res, (hb.block _ (heap_lt h.sheets)).trans h.sheets, (hb.block _ (heap_lt h.book)).trans h.book, h.c0.below hb, h.c1.below hb, h.ne, h.low.trans (hb.mono h.low.size), h.lo0, h.lo, Nat.le_trans h.size hb.size⟩
theorem Sb.drew (h : Sb w B l0 l1 u0 u1 v0 v1 y) : Sb w B l0 l1 u0 u1 v0 v1 y.drew := h.keep (Below.refl _ y).drew
theorem Sb.app0 (h : Sb w B l0 l1 v0 v1 v0 v1 y) {m g : Nat} (hm : m = l0.length) (hg : y.heap.size = g) (hl : m ≤ 1000000) (p : PAt) :
    ∃ a c w2, (Builtin.append_ #[53, 53] 53 #[v0, .slice (some ⟨g, 0, none⟩) 1 1]).run Tryz.prog (y.alloc (.cells (cellC one1 p).toArray 58)) = .ok (.slice a (m + 1) c) w2 ∧
      Sb w B (l0 ++ [p]) l1 v0 v1 (.slice a (m + 1) c) v1 w2 ∧ Chg (own v0) y w2 := by
  obtain ⟨a, c, w2, h1, h2, h3, h4⟩ := h.c0.app (Nat.le_trans h.lo h.size) hm hg hl p
  have hn : ∀ x, x < w.heap.size + 3 → x ∉ own v0 := fun x hx hm => by have := (h.c0.low x (mem_own' hm)).1; have := h.lo0; omega
  refine ⟨a, c, w2, h1, ⟨h3.heap h.res (hn _ (by omega)), h3.heap h.sheets (hn _ (by omega)), h3.heap h.book (hn _ (by omega)), h2, h.c1.chg h3 (fun g hg hm => h.ne g (mem_own' hm) hg), fun g hg hq => by rcases h4 g hg with h5 | h5; exact h.ne g h5 hq; exact absurd (h.c1.low g hq).2 (by omega), h.low.trans (h3.below (fun g hg => ?_) h.low.size), h.lo0, h.lo, Nat.le_trans h.size h3.size⟩, h3⟩
  have := (h.c0.low g (mem_own' hg)).1
  have := h.lo0
  omega
theorem Sb.app1 (h : Sb w B l0 l1 v0 v1 v0 v1 y) {m g : Nat} (hm : m = l1.length) (hg : y.heap.size = g) (hl : m ≤ 1000000) (p : PAt) :
    ∃ a c w2, (Builtin.append_ #[53, 53] 53 #[v1, .slice (some ⟨g, 0, none⟩) 1 1]).run Tryz.prog (y.alloc (.cells (cellC one1 p).toArray 58)) = .ok (.slice a (m + 1) c) w2 ∧
      Sb w B l0 (l1 ++ [p]) v0 v1 v0 (.slice a (m + 1) c) w2 ∧ Chg (own v1) y w2 := by
  obtain ⟨a, c, w2, h1, h2, h3, h4⟩ := h.c1.app (Nat.le_trans h.lo h.size) hm hg hl p
  have hn : ∀ x, x < w.heap.size + 3 → x ∉ own v1 := fun x hx hm => by have := (h.c1.low x (mem_own' hm)).1; have := h.lo0; omega
  refine ⟨a, c, w2, h1, ⟨h3.heap h.res (hn _ (by omega)), h3.heap h.sheets (hn _ (by omega)), h3.heap h.book (hn _ (by omega)), h.c0.chg h3 (fun g hg hm => h.ne g hg (mem_own' hm)), h2, fun g hg hq => by rcases h4 g hq with h5 | h5; exact h.ne g hg h5; exact absurd (h.c0.low g hg).2 (by omega), h.low.trans (h3.below (fun g hg => ?_) h.low.size), h.lo0, h.lo, Nat.le_trans h.size h3.size⟩, h3⟩
  have := (h.c1.low g (mem_own' hg)).1
  have := h.lo0
  omega
theorem Sb.set0 (h : Sb w B l0 l1 u0 u1 v0 v1 y) : Sb w B l0 l1 v0 u1 v0 v1 (y.setCell ⟨w.heap.size + 1, 1, none⟩ v0) := by
  have hc : Chg [w.heap.size + 1] y (y.setCell ⟨w.heap.size + 1, 1, none⟩ v0) := (Chg.refl _ y).setCell (.inl (by simp)) _
  refine ⟨hc.heap h.res (by simp), ?_, hc.heap h.book (by simp), h.c0.chg hc (fun g hg hm => ?_), h.c1.chg hc (fun g hg hm => ?_), h.ne, h.low.setCell (by simp) _, h.lo0, h.lo, Nat.le_trans h.size hc.size⟩
  · have := heap_setCell_at (i := 1) h.sheets v0
    simpa using this
  · simp at hm
    have := (h.c0.low g hg).1
    have := h.lo0
    omega
  · simp at hm
    have := (h.c1.low g hg).1
    have := h.lo0
    omega
theorem Sb.set1 (h : Sb w B l0 l1 u0 u1 v0 v1 y) : Sb w B l0 l1 u0 v1 v0 v1 (y.setCell ⟨w.heap.size + 1, 3, none⟩ v1) := by
  have hc : Chg [w.heap.size + 1] y (y.setCell ⟨w.heap.size + 1, 3, none⟩ v1) := (Chg.refl _ y).setCell (.inl (by simp)) _
  refine ⟨hc.heap h.res (by simp), ?_, hc.heap h.book (by simp), h.c0.chg hc (fun g hg hm => ?_), h.c1.chg hc (fun g hg hm => ?_), h.ne, h.low.setCell (by simp) _, h.lo0, h.lo, Nat.le_trans h.size hc.size⟩
  · have := heap_setCell_at (i := 3) h.sheets v1
    simpa using this
  · simp at hm
    have := (h.c0.low g hg).1
    have := h.lo0
    omega
  · simp at hm
    have := (h.c1.low g hg).1
    have := h.lo0
    omega
end

def SbRel (w w1 : World) (A : List PAt) (i : Value) (wr : World) : Prop :=
  ∃ (j : Nat) (v0 v1 : Value), i = .int .i64 (j : Int) ∧ j ≤ A.length ∧ Sb w w1.heap.size (onSheet (A.take j) 0) (onSheet (A.take j) 1) v0 v1 v0 v1 wr ∧ Chg [w.heap.size + 1] w1 wr

set_option maxRecDepth 20000 in
set_option maxHeartbeats 4000000 in
theorem book_any (w : World) (lv : Value) (L : List PAt) (hl : AtsIn w lv L) (hL : ∀ p, p ∈ L → SmallAt p) :
    Calls Tryz.prog 5 #[lv] w fun e w' => (∃ bv, e = .returned bv ∧ BookAt w' bv (atsOf L) one1) ∧ Below w.heap.size w w' := by
  obtain ⟨A, hA⟩ : ∃ A, A = atsOf L := ⟨_, rfl⟩
  have HSA := hid (fun (y : World) (hb : Below w.heap.size w y) => by have := spillAts_any y lv L (hl.below hb) hL; rwa [← hA] at this)
  rw [← hA]
  have hok := atsOf_ok L
  rw [← hA] at hok
  have HOK := hid hok
  obtain ⟨la, ln, lc, rfl⟩ : ∃ a n c, lv = .slice a n c := by obtain ⟨a, c, _, _, e, _⟩ := hl.view; exact ⟨_, _, _, e⟩
  clear hl hL hA hok
  go_enter Tryz.func5, Tryz.ntmps5
  go_wp2_with fail
  have b0 := (((Below.refl w.heap.size w).alloc (Nat.le_refl _) (.cells #[.slice none 0 0, .slice none 0 0, .slice none 0 0, .slice none 0 0] 30)).alloc (by simp) (.cells #[.string nameS, .slice none 0 0, .string nameT, .slice none 0 0] 55)).alloc (by simp; omega) (.cells #[.slice (some ⟨w.heap.size + 1, 0, none⟩) 2 2, .slice none 0 0, .slice none 0 0, .slice none 0 0] 30)
  have g0 := heap_alloc_keep (heap_alloc_keep (heap_alloc_new w (.cells #[.slice none 0 0, .slice none 0 0, .slice none 0 0, .slice none 0 0] 30)) (.cells #[.string nameS, .slice none 0 0, .string nameT, .slice none 0 0] 55)) (.cells #[.slice (some ⟨w.heap.size + 1, 0, none⟩) 2 2, .slice none 0 0, .slice none 0 0, .slice none 0 0] 30)
  have g1 := heap_alloc_keep (heap_alloc2_new w (.cells #[.slice none 0 0, .slice none 0 0, .slice none 0 0, .slice none 0 0] 30) (.cells #[.string nameS, .slice none 0 0, .string nameT, .slice none 0 0] 55)) (.cells #[.slice (some ⟨w.heap.size + 1, 0, none⟩) 2 2, .slice none 0 0, .slice none 0 0, .slice none 0 0] 30)
  have g2 := heap_alloc_new ((w.alloc (.cells #[.slice none 0 0, .slice none 0 0, .slice none 0 0, .slice none 0 0] 30)).alloc (.cells #[.string nameS, .slice none 0 0, .string nameT, .slice none 0 0] 55)) (.cells #[.slice (some ⟨w.heap.size + 1, 0, none⟩) 2 2, .slice none 0 0, .slice none 0 0, .slice none 0 0] 30)
  have z0 : (((w.alloc (.cells #[.slice none 0 0, .slice none 0 0, .slice none 0 0, .slice none 0 0] 30)).alloc (.cells #[.string nameS, .slice none 0 0, .string nameT, .slice none 0 0] 55)).alloc (.cells #[.slice (some ⟨w.heap.size + 1, 0, none⟩) 2 2, .slice none 0 0, .slice none 0 0, .slice none 0 0] 30)).heap.size = w.heap.size + 3 := by simp
  refine (HSA.out _ b0).mono ?_
  rintro e w1 ⟨⟨av, rfl, hav⟩, b1⟩
  have hsz : w.heap.size + 3 ≤ w1.heap.size := Nat.le_trans (by simp) b1.size
  have S1 : Sb w w1.heap.size (onSheet (A.take 0) 0) (onSheet (A.take 0) 1) (.slice none 0 0) (.slice none 0 0) (.slice none 0 0) (.slice none 0 0) w1 :=
    ⟨(b1.block _ (heap_lt g0)).trans g0, (b1.block _ (heap_lt g1)).trans g1, by
      have := (b1.block _ (heap_lt g2)).trans g2
      simpa using this, ClsOwn.nil _ _ _, ClsOwn.nil _ _ _, (by intro g hg; cases hg), b0.trans (b1.mono (by simp; omega)), hsz, Nat.le_refl _, Nat.le_refl _⟩
  have R0 := hid (show SbRel w w1 A (.int .i64 0) w1 from ⟨0, _, _, rfl, by omega, S1, Chg.refl _ _⟩)
  obtain ⟨aa, an, ac, rfl, han⟩ := hav.view
  rw [z0] at hav
  have hown := hav.low
  obtain ⟨aa', ac', gb, go, ea, hal, hav'⟩ := hav.read.view
  have HAO := hid hav
  have HAV := hid hav'
  have HOWN := hid hown
  have ea' : aa' = aa := by injection ea with h1 h2 h3; exact h1.symm
  obtain rfl := ea'
  have HAN := hid han
  have hsize : w.heap.size + 1 + 1 < w1.heap.size := by omega
  have HSZ := hid hsz
  clear b0 g0 g1 g2 z0 S1 b1 hav hown ea hal hav' han HSA
  go_wp2_with fail
  go_loopw [5] (fun i wr => SbRel w w1 A i wr) (fun i _ => an - (RowKit.intOf i).toNat)
  case atStart => exact R0.out
  case round =>
    obtain ⟨j, v0, v1, rfl, hj, hS, hC⟩ := hrel
    rw [← HAN.out] at hj
    obtain ⟨a0, m0, c0, rfl, hm0⟩ := hS.c0.view
    obtain ⟨a1, m1, c1, rfl, hm1⟩ := hS.c1.view
    have HM0 := hid hm0
    have HM1 := hid hm1
    have HS := hid hS
    have HC1 := hid hC
    have HN := HAN
    have hfew := HOK.out.few
    have han12 : an ≤ 12 := by rw [HAN.out]; exact hfew
    have hl0 : m0 ≤ 12 := by rw [hm0]; exact Nat.le_trans (onSheet_le _ _) (by rw [List.length_take]; omega)
    have hl1 : m1 ≤ 12 := by rw [hm1]; exact Nat.le_trans (onSheet_le _ _) (by rw [List.length_take]; omega)
    clear hS hC hm0 hm1 hfew R0
    by_cases hjn : j < an
    · obtain ⟨p, hp⟩ : ∃ p, A[j]? = some p := ⟨_, List.getElem?_eq_getElem (by rw [← HAN.out]; omega)⟩
      obtain ⟨rfl, k0, k1, k2⟩ := HAV.out j p hp
      have hgb := HOWN.out gb rfl
      have hgl := World.block_lt_of_cell? _ _ k0
      have kk : ∀ {o : Nat} {u : Value}, w1.cell? ⟨gb, o, none⟩ = some u → wr.cell? ⟨gb, o, none⟩ = some u := fun {o u} hc => HC1.out.cell hc (by simp; omega)
      have k0' := kk k0
      have k1' := kk k1
      have k2' := kk k2
      have hin := HOK.out.two p (List.mem_of_getElem? hp)
      have HP9 := hid hp
      have HOWN0 := hid (fun g (hg : (Value.slice a0 m0 c0).ownBlock = some g) => (HS.out.c0.low g hg).1)
      have HOWN1 := hid (fun g (hg : (Value.slice a1 m1 c1).ownBlock = some g) => (HS.out.c1.low g hg).1)
      have hgn0 : gb ∉ own (Value.slice a0 m0 c0) := fun hm => by have := HOWN0.out gb (mem_own' hm); simp at hgl; omega
      have hgn1 : gb ∉ own (Value.slice a1 m1 c1) := fun hm => by have := HOWN1.out gb (mem_own' hm); simp at hgl; omega
      clear k0 k1 k2 hp hgl kk
      by_cases h0 : p.1 = 0
      · trace "0"
        have HP := hid (show p.1 = 0 by exact h0)
        have e0' : wr.cell? ⟨gb, go + j * 3, none⟩ = some (.int .i64 0) := by rw [← HP.out]; exact k0'
        obtain ⟨a2, c2, w3, happ, S3, hch⟩ := HS.out.drew.app0 (g := wr.heap.size) HM0.out rfl (by omega) p
        unfold cellC at happ
        have kk3 : ∀ {q : Addr} {u : Value}, wr.cell? q = some u → q.block ∉ own (Value.slice a0 m0 c0) → w3.cell? q = some u := fun {q u} hc hn => hch.cell (a := wr.drew) hc hn
        have f0 := kk3 e0' hgn0
        have f1 := kk3 k1' hgn0
        have f2 := kk3 k2' hgn0
        have t0 := cell_of (i := 0) HS.out.book rfl
        have t1 := cell_of (i := 1) HS.out.sheets rfl
        have t3 := cell_of (i := 3) HS.out.sheets rfl
        have u0 := cell_of (i := 0) S3.book rfl
        have u1 := cell_of (i := 1) S3.sheets rfl
        have u3 := cell_of (i := 3) S3.sheets rfl
        have fz := free_of (i := 1) S3.sheets
        have RR := hid (show SbRel w w1 A (.int .i64 ((j : Int) + 1)) (w3.setCell ⟨w.heap.size + 1, 1, none⟩ (.slice a2 (m0 + 1) c2)) from ⟨j + 1, _, _, by simp, by rw [← HN.out]; omega, by
          have hx := S3.set0
          have e1 := onSheet_next HP9.out 0
          have e2 := onSheet_next HP9.out 1
          rw [if_pos HP.out] at e1
          rw [if_neg (by rw [HP.out]; decide), List.append_nil] at e2
          rw [e1, e2]
          exact hx, (HC1.out.drew.trans hch (fun g hg => .inr (HOWN0.out g (mem_own' hg)))).setCell (.inl (by simp)) _⟩)
        have hsh := heap_lt HS.out.sheets
        have hbk := heap_lt HS.out.book
        have hgw := World.block_lt_of_cell? _ _ k0'
        simp only at hgw
        have keep3 := And.intro f1 (And.intro f2 u0)
        have gne : gb ≠ w.heap.size + 1 := by omega
        have keep4 := And.intro (cell_setCell_far (i := 1) f1 gne (.slice a2 (m0 + 1) c2)) (And.intro (cell_setCell_far (i := 1) f2 gne (.slice a2 (m0 + 1) c2)) (cell_setCell_far (i := 1) u0 (show w.heap.size + 1 + 1 ≠ w.heap.size + 1 by omega) (.slice a2 (m0 + 1) c2)))
        have bAl := (Below.refl wr.heap.size wr).alloc (Nat.le_refl _) (.cells #[.int .i64 p.2.1, .int .i64 p.2.2, .string text1] 58)
        have keep2 := And.intro ((bAl.cell (World.block_lt_of_cell? _ _ k1')).trans k1') (And.intro ((bAl.cell (World.block_lt_of_cell? _ _ k2')).trans k2') ((bAl.cell (World.block_lt_of_cell? _ _ t0)).trans t0))
        have tA1 := (bAl.cell (World.block_lt_of_cell? _ _ t1)).trans t1
        have happ1 : (Builtin.append_ #[53, 53] 53 #[.slice a0 m0 c0, .slice (some ⟨wr.heap.size, 0, none⟩) 1 1]).run Tryz.prog (wr.alloc (.cells #[.int .i64 p.2.1, .int .i64 p.2.2, .string text1] 58)).drew = .ok (.slice a2 (m0 + 1) c2) w3 := happ
        clear S3 hch k0' kk3 h0 hin happ bAl gne
        go_wp2_with fail
        refine wp_region_held_drew (S := fun y => y.cell? ⟨gb, go + j * 3 + 1, none⟩ = some (.int .i64 p.2.1) ∧ y.cell? ⟨gb, go + j * 3 + 2, none⟩ = some (.int .i64 p.2.2) ∧ y.cell? ⟨w.heap.size + 1 + 1, 0, none⟩ = some (.slice (some ⟨w.heap.size + 1, 0, none⟩) 2 2)) (by kernel_rfl) ⟨k1', k2', t0⟩ (fun hS => ?_)
        refine wpAnyH_take (i := 0) (oi := { dst := Option.some 24, op := Op.fieldAddr 30 (Operand.tmp 3) 0, type := 0, pos := "law.go:54", after := #[], guard := Option.none }) (v := ?_) rfl (by kernel_rfl) (by kernel_rfl) (by kernel_rfl) (fun _ _ _ h => h) (Or.inl ⟨by rfl, ?_⟩) hS ?_
        rotate_left 1
        · rintro wx ⟨s0, s1, s2⟩
          (go_simp <;> (try with_reducible rfl))
        try simp only [Act.put, List.setIfInBounds_toArray, List.set_cons_zero, List.set_cons_succ]
        refine wpAnyH_take (i := 1) (oi := { dst := Option.some 25, op := Op.load 25 (Operand.tmp 24), type := 25, pos := "law.go:54", after := #[{ on := 0, ground := Ground.data }], guard := Option.none }) (v := ?_) rfl (by kernel_rfl) (by kernel_rfl) (by kernel_rfl) (fun _ _ _ h => h) (Or.inl ⟨by rfl, ?_⟩) hS ?_
        rotate_left 1
        · rintro wx ⟨s0, s1, s2⟩
          (go_simp <;> (try with_reducible rfl))
        try simp only [Act.put, List.setIfInBounds_toArray, List.set_cons_zero, List.set_cons_succ]
        refine wpAnyH_take (i := 2) (oi := { dst := Option.some 26, op := Op.move (Operand.tmp 6), type := 3, pos := "law.go:54", after := #[], guard := Option.none }) (v := ?_) rfl (by kernel_rfl) (by kernel_rfl) (by kernel_rfl) (fun _ _ _ h => h) (Or.inl ⟨by rfl, ?_⟩) hS ?_
        rotate_left 1
        · rintro wx ⟨s0, s1, s2⟩
          (go_simp <;> (try with_reducible rfl))
        try simp only [Act.put, List.setIfInBounds_toArray, List.set_cons_zero, List.set_cons_succ]
        refine wpAnyH_take (i := 3) (oi := { dst := Option.some 27, op := Op.fieldAddr 30 (Operand.tmp 3) 0, type := 0, pos := "law.go:54", after := #[], guard := Option.none }) (v := ?_) rfl (by kernel_rfl) (by kernel_rfl) (by kernel_rfl) (fun _ _ _ h => h) (Or.inl ⟨by rfl, ?_⟩) hS ?_
        rotate_left 1
        · rintro wx ⟨s0, s1, s2⟩
          (go_simp <;> (try with_reducible rfl))
        try simp only [Act.put, List.setIfInBounds_toArray, List.set_cons_zero, List.set_cons_succ]
        refine wpAnyH_take (i := 4) (oi := { dst := Option.some 28, op := Op.load 25 (Operand.tmp 27), type := 25, pos := "law.go:54", after := #[{ on := 3, ground := Ground.data }], guard := Option.none }) (v := ?_) rfl (by kernel_rfl) (by kernel_rfl) (by kernel_rfl) (fun _ _ _ h => h) (Or.inl ⟨by rfl, ?_⟩) hS ?_
        rotate_left 1
        · rintro wx ⟨s0, s1, s2⟩
          (go_simp <;> (try with_reducible rfl))
        try simp only [Act.put, List.setIfInBounds_toArray, List.set_cons_zero, List.set_cons_succ]
        refine wpAnyH_take (i := 5) (oi := { dst := Option.some 29, op := Op.move (Operand.tmp 6), type := 3, pos := "law.go:54", after := #[], guard := Option.none }) (v := ?_) rfl (by kernel_rfl) (by kernel_rfl) (by kernel_rfl) (fun _ _ _ h => h) (Or.inl ⟨by rfl, ?_⟩) hS ?_
        rotate_left 1
        · rintro wx ⟨s0, s1, s2⟩
          (go_simp <;> (try with_reducible rfl))
        try simp only [Act.put, List.setIfInBounds_toArray, List.set_cons_zero, List.set_cons_succ]
        refine wpAnyH_take (i := 6) (oi := { dst := Option.some 30, op := Op.indexAddr 25 (Operand.tmp 28) (Operand.tmp 29), type := 0, pos := "law.go:54", after := #[{ on := 4, ground := Ground.data }, { on := 5, ground := Ground.data }], guard := Option.none }) (v := ?_) rfl (by kernel_rfl) (by kernel_rfl) (by kernel_rfl) (fun _ _ _ h => h) (Or.inl ⟨by rfl, ?_⟩) hS ?_
        rotate_left 1
        · rintro wx ⟨s0, s1, s2⟩
          (go_simp <;> (try with_reducible rfl))
        try simp only [Act.put, List.setIfInBounds_toArray, List.set_cons_zero, List.set_cons_succ]
        refine wpAnyH_take (i := 7) (oi := { dst := Option.some 31, op := Op.fieldAddr 55 (Operand.tmp 30) 1, type := 0, pos := "law.go:54", after := #[{ on := 6, ground := Ground.data }], guard := Option.none }) (v := ?_) rfl (by kernel_rfl) (by kernel_rfl) (by kernel_rfl) (fun _ _ _ h => h) (Or.inl ⟨by rfl, ?_⟩) hS ?_
        rotate_left 1
        · rintro wx ⟨s0, s1, s2⟩
          (go_simp <;> (try with_reducible rfl))
        try simp only [Act.put, List.setIfInBounds_toArray, List.set_cons_zero, List.set_cons_succ]
        refine wpAnyH_take (i := 9) (oi := { dst := Option.some 33, op := Op.move (Operand.tmp 4), type := 22, pos := "law.go:54", after := #[], guard := Option.none }) (v := ?_) rfl (by kernel_rfl) (by kernel_rfl) (by kernel_rfl) (fun _ _ _ h => h) (Or.inl ⟨by rfl, ?_⟩) hS ?_
        rotate_left 1
        · rintro wx ⟨s0, s1, s2⟩
          (go_simp <;> (try with_reducible rfl))
        try simp only [Act.put, List.setIfInBounds_toArray, List.set_cons_zero, List.set_cons_succ]
        refine wpAnyH_take (i := 10) (oi := { dst := Option.some 34, op := Op.move (Operand.tmp 5), type := 3, pos := "law.go:54", after := #[], guard := Option.none }) (v := ?_) rfl (by kernel_rfl) (by kernel_rfl) (by kernel_rfl) (fun _ _ _ h => h) (Or.inl ⟨by rfl, ?_⟩) hS ?_
        rotate_left 1
        · rintro wx ⟨s0, s1, s2⟩
          (go_simp <;> (try with_reducible rfl))
        try simp only [Act.put, List.setIfInBounds_toArray, List.set_cons_zero, List.set_cons_succ]
        refine wpAnyH_take (i := 11) (oi := { dst := Option.some 35, op := Op.indexAddr 22 (Operand.tmp 33) (Operand.tmp 34), type := 0, pos := "law.go:54", after := #[{ on := 9, ground := Ground.data }, { on := 10, ground := Ground.data }], guard := Option.none }) (v := ?_) rfl (by kernel_rfl) (by kernel_rfl) (by kernel_rfl) (fun _ _ _ h => h) (Or.inl ⟨by rfl, ?_⟩) hS ?_
        rotate_left 1
        · rintro wx ⟨s0, s1, s2⟩
          (go_simp <;> (try with_reducible rfl))
        try simp only [Act.put, List.setIfInBounds_toArray, List.set_cons_zero, List.set_cons_succ]
        refine wpAnyH_take (i := 12) (oi := { dst := Option.some 36, op := Op.fieldAddr 38 (Operand.tmp 35) 1, type := 0, pos := "law.go:54", after := #[{ on := 11, ground := Ground.data }], guard := Option.none }) (v := ?_) rfl (by kernel_rfl) (by kernel_rfl) (by kernel_rfl) (fun _ _ _ h => h) (Or.inl ⟨by rfl, ?_⟩) hS ?_
        rotate_left 1
        · rintro wx ⟨s0, s1, s2⟩
          (go_simp <;> (try with_reducible rfl))
        try simp only [Act.put, List.setIfInBounds_toArray, List.set_cons_zero, List.set_cons_succ]
        refine wpAnyH_take (i := 13) (oi := { dst := Option.some 37, op := Op.load 3 (Operand.tmp 36), type := 3, pos := "law.go:54", after := #[{ on := 12, ground := Ground.data }], guard := Option.none }) (v := ?_) rfl (by kernel_rfl) (by kernel_rfl) (by kernel_rfl) (fun _ _ _ h => h) (Or.inl ⟨by rfl, ?_⟩) hS ?_
        rotate_left 1
        · rintro wx ⟨s0, s1, s2⟩
          (go_simp <;> (try with_reducible rfl))
        try simp only [Act.put, List.setIfInBounds_toArray, List.set_cons_zero, List.set_cons_succ]
        refine wpAnyH_take (i := 14) (oi := { dst := Option.some 38, op := Op.move (Operand.tmp 4), type := 22, pos := "law.go:54", after := #[], guard := Option.none }) (v := ?_) rfl (by kernel_rfl) (by kernel_rfl) (by kernel_rfl) (fun _ _ _ h => h) (Or.inl ⟨by rfl, ?_⟩) hS ?_
        rotate_left 1
        · rintro wx ⟨s0, s1, s2⟩
          (go_simp <;> (try with_reducible rfl))
        try simp only [Act.put, List.setIfInBounds_toArray, List.set_cons_zero, List.set_cons_succ]
        refine wpAnyH_take (i := 15) (oi := { dst := Option.some 39, op := Op.move (Operand.tmp 5), type := 3, pos := "law.go:54", after := #[], guard := Option.none }) (v := ?_) rfl (by kernel_rfl) (by kernel_rfl) (by kernel_rfl) (fun _ _ _ h => h) (Or.inl ⟨by rfl, ?_⟩) hS ?_
        rotate_left 1
        · rintro wx ⟨s0, s1, s2⟩
          (go_simp <;> (try with_reducible rfl))
        try simp only [Act.put, List.setIfInBounds_toArray, List.set_cons_zero, List.set_cons_succ]
        refine wpAnyH_take (i := 16) (oi := { dst := Option.some 40, op := Op.indexAddr 22 (Operand.tmp 38) (Operand.tmp 39), type := 0, pos := "law.go:54", after := #[{ on := 14, ground := Ground.data }, { on := 15, ground := Ground.data }], guard := Option.none }) (v := ?_) rfl (by kernel_rfl) (by kernel_rfl) (by kernel_rfl) (fun _ _ _ h => h) (Or.inl ⟨by rfl, ?_⟩) hS ?_
        rotate_left 1
        · rintro wx ⟨s0, s1, s2⟩
          (go_simp <;> (try with_reducible rfl))
        try simp only [Act.put, List.setIfInBounds_toArray, List.set_cons_zero, List.set_cons_succ]
        refine wpAnyH_take (i := 17) (oi := { dst := Option.some 41, op := Op.fieldAddr 38 (Operand.tmp 40) 2, type := 0, pos := "law.go:54", after := #[{ on := 16, ground := Ground.data }], guard := Option.none }) (v := ?_) rfl (by kernel_rfl) (by kernel_rfl) (by kernel_rfl) (fun _ _ _ h => h) (Or.inl ⟨by rfl, ?_⟩) hS ?_
        rotate_left 1
        · rintro wx ⟨s0, s1, s2⟩
          (go_simp <;> (try with_reducible rfl))
        try simp only [Act.put, List.setIfInBounds_toArray, List.set_cons_zero, List.set_cons_succ]
        refine wpAnyH_take (i := 18) (oi := { dst := Option.some 42, op := Op.load 3 (Operand.tmp 41), type := 3, pos := "law.go:54", after := #[{ on := 17, ground := Ground.data }], guard := Option.none }) (v := ?_) rfl (by kernel_rfl) (by kernel_rfl) (by kernel_rfl) (fun _ _ _ h => h) (Or.inl ⟨by rfl, ?_⟩) hS ?_
        rotate_left 1
        · rintro wx ⟨s0, s1, s2⟩
          (go_simp <;> (try with_reducible rfl))
        try simp only [Act.put, List.setIfInBounds_toArray, List.set_cons_zero, List.set_cons_succ]
        refine wpAnyH_take (i := 19) (oi := { dst := Option.some 43, op := Op.build 58 #[(0, Operand.tmp 37), (1, Operand.tmp 42), (2, Operand.const (Value.string { data := #[49] }))], type := 58, pos := "law.go:54", after := #[{ on := 13, ground := Ground.data }, { on := 18, ground := Ground.data }], guard := Option.none }) (v := ?_) rfl (by kernel_rfl) (by kernel_rfl) (by kernel_rfl) (fun _ _ _ h => h) (Or.inl ⟨by rfl, ?_⟩) hS ?_
        rotate_left 1
        · rintro wx ⟨s0, s1, s2⟩
          (go_simp <;> (try with_reducible rfl))
        try simp only [Act.put, List.setIfInBounds_toArray, List.set_cons_zero, List.set_cons_succ]
        refine wpAnyH_ready (rs := [8, 20]) (by kernel_rfl) (by simp) ?_
        refine AllReadyH.cons (o := { dst := Option.some 32, op := Op.load 53 (Operand.tmp 31), type := 53, pos := "law.go:54", after := #[{ on := 7, ground := Ground.data }], guard := Option.none }) rfl (fun K hK => ?_) (AllReadyH.cons (o := { dst := Option.some 44, op := Op.buildSlice 53 1 #[(0, Operand.tmp 43)], type := 53, pos := "law.go:54", after := #[{ on := 19, ground := Ground.data }], guard := Option.none }) rfl (fun K hK => ?_) AllReadyH.nil)
        · go_simp
          refine hK.out _ _ ⟨k1', k2', t0⟩ (fun hS => ?_)
          clear hK K
          try simp only [Act.put, List.setIfInBounds_toArray, List.set_cons_zero, List.set_cons_succ]
          refine wpAnyH_ready (rs := [20]) (by kernel_rfl) (by simp) ?_
          refine AllReadyH.cons (o := { dst := Option.some 44, op := Op.buildSlice 53 1 #[(0, Operand.tmp 43)], type := 53, pos := "law.go:54", after := #[{ on := 19, ground := Ground.data }], guard := Option.none }) rfl (fun K hK => ?_) AllReadyH.nil
          go_simp
          refine hK.out _ _ keep2 (fun hS => ?_)
          clear hK K
          try simp only [Act.put, List.setIfInBounds_toArray, List.set_cons_zero, List.set_cons_succ]
          refine wpAnyH_ready (rs := [21]) (by kernel_rfl) (by simp) ?_
          refine AllReadyH.cons (o := { dst := Option.some 45, op := Op.call { callee := Callee.builtin Builtin.append, args := #[Operand.tmp 32, Operand.tmp 44], argTypes := #[53, 53] }, type := 53, pos := "law.go:54", after := #[{ on := 8, ground := Ground.data }, { on := 20, ground := Ground.data }], guard := Option.none }) rfl (fun K hK => ?_) AllReadyH.nil
          refine step_append_run rfl (.tmp 32) (.tmp 44) 53 rfl _ _ (by simp [Act.eval]) (by simp [Act.eval]) happ1 ?_
          refine hK.out _ _ keep3 (fun hS => ?_)
          clear hK K
          try simp only [Act.put, List.setIfInBounds_toArray, List.set_cons_zero, List.set_cons_succ]
          refine wpAnyH_take (i := 22) (oi := { dst := Option.some 46, op := Op.indexAddr 25 (Operand.tmp 25) (Operand.tmp 26), type := 0, pos := "law.go:54", after := #[{ on := 1, ground := Ground.data }, { on := 2, ground := Ground.data }, { on := 0, ground := Ground.phase }, { on := 1, ground := Ground.phase }, { on := 2, ground := Ground.phase }, { on := 3, ground := Ground.phase }, { on := 4, ground := Ground.phase }, { on := 5, ground := Ground.phase }, { on := 6, ground := Ground.phase }, { on := 7, ground := Ground.phase }, { on := 8, ground := Ground.phase }, { on := 9, ground := Ground.phase }, { on := 10, ground := Ground.phase }, { on := 11, ground := Ground.phase }, { on := 12, ground := Ground.phase }, { on := 13, ground := Ground.phase }, { on := 14, ground := Ground.phase }, { on := 15, ground := Ground.phase }, { on := 16, ground := Ground.phase }, { on := 17, ground := Ground.phase }, { on := 18, ground := Ground.phase }, { on := 19, ground := Ground.phase }, { on := 20, ground := Ground.phase }, { on := 21, ground := Ground.phase }], guard := Option.none }) (v := ?_) rfl (by kernel_rfl) (by kernel_rfl) (by kernel_rfl) (fun _ _ _ h => h) (Or.inl ⟨by rfl, ?_⟩) hS ?_
          rotate_left 1
          · rintro wx ⟨s0, s1, s2⟩
            (go_simp <;> (try with_reducible rfl))
          try simp only [Act.put, List.setIfInBounds_toArray, List.set_cons_zero, List.set_cons_succ]
          refine wpAnyH_take (i := 23) (oi := { dst := Option.some 47, op := Op.fieldAddr 55 (Operand.tmp 46) 1, type := 0, pos := "law.go:54", after := #[{ on := 22, ground := Ground.data }, { on := 0, ground := Ground.phase }, { on := 1, ground := Ground.phase }, { on := 2, ground := Ground.phase }, { on := 3, ground := Ground.phase }, { on := 4, ground := Ground.phase }, { on := 5, ground := Ground.phase }, { on := 6, ground := Ground.phase }, { on := 7, ground := Ground.phase }, { on := 8, ground := Ground.phase }, { on := 9, ground := Ground.phase }, { on := 10, ground := Ground.phase }, { on := 11, ground := Ground.phase }, { on := 12, ground := Ground.phase }, { on := 13, ground := Ground.phase }, { on := 14, ground := Ground.phase }, { on := 15, ground := Ground.phase }, { on := 16, ground := Ground.phase }, { on := 17, ground := Ground.phase }, { on := 18, ground := Ground.phase }, { on := 19, ground := Ground.phase }, { on := 20, ground := Ground.phase }, { on := 21, ground := Ground.phase }], guard := Option.none }) (v := ?_) rfl (by kernel_rfl) (by kernel_rfl) (by kernel_rfl) (fun _ _ _ h => h) (Or.inl ⟨by rfl, ?_⟩) hS ?_
          rotate_left 1
          · rintro wx ⟨s0, s1, s2⟩
            (go_simp <;> (try with_reducible rfl))
          try simp only [Act.put, List.setIfInBounds_toArray, List.set_cons_zero, List.set_cons_succ]
          refine wpAnyH_ready (rs := [24]) (by kernel_rfl) (by simp) ?_
          refine AllReadyH.cons (o := { dst := Option.none, op := Op.store 53 (Operand.tmp 47) (Operand.tmp 45), type := 0, pos := "law.go:54", after := #[{ on := 23, ground := Ground.data }, { on := 21, ground := Ground.data }, { on := 21, ground := Ground.chain }, { on := 0, ground := Ground.phase }, { on := 1, ground := Ground.phase }, { on := 2, ground := Ground.phase }, { on := 3, ground := Ground.phase }, { on := 4, ground := Ground.phase }, { on := 5, ground := Ground.phase }, { on := 6, ground := Ground.phase }, { on := 7, ground := Ground.phase }, { on := 8, ground := Ground.phase }, { on := 9, ground := Ground.phase }, { on := 10, ground := Ground.phase }, { on := 11, ground := Ground.phase }, { on := 12, ground := Ground.phase }, { on := 13, ground := Ground.phase }, { on := 14, ground := Ground.phase }, { on := 15, ground := Ground.phase }, { on := 16, ground := Ground.phase }, { on := 17, ground := Ground.phase }, { on := 18, ground := Ground.phase }, { on := 19, ground := Ground.phase }, { on := 20, ground := Ground.phase }, { on := 21, ground := Ground.phase }], guard := Option.none }) rfl (fun K hK => ?_) AllReadyH.nil
          go_simp
          refine hK.out _ _ keep4 (fun hS => ?_)
          clear hK K
          try simp only [Act.put, List.setIfInBounds_toArray, List.set_cons_zero, List.set_cons_succ]
          refine wpAnyH_done (by kernel_rfl) ?_ _
          go_wp2_with fail
          go_roundw
          case rel => exact RR.out
          case measure => simp [RowKit.intOf]; omega
        · go_simp
          refine hK.out _ _ keep2 (fun hS => ?_)
          clear hK K
          try simp only [Act.put, List.setIfInBounds_toArray, List.set_cons_zero, List.set_cons_succ]
          refine wpAnyH_ready (rs := [8]) (by kernel_rfl) (by simp) ?_
          refine AllReadyH.cons (o := { dst := Option.some 32, op := Op.load 53 (Operand.tmp 31), type := 53, pos := "law.go:54", after := #[{ on := 7, ground := Ground.data }], guard := Option.none }) rfl (fun K hK => ?_) AllReadyH.nil
          go_simp
          refine hK.out _ _ keep2 (fun hS => ?_)
          clear hK K
          try simp only [Act.put, List.setIfInBounds_toArray, List.set_cons_zero, List.set_cons_succ]
          refine wpAnyH_ready (rs := [21]) (by kernel_rfl) (by simp) ?_
          refine AllReadyH.cons (o := { dst := Option.some 45, op := Op.call { callee := Callee.builtin Builtin.append, args := #[Operand.tmp 32, Operand.tmp 44], argTypes := #[53, 53] }, type := 53, pos := "law.go:54", after := #[{ on := 8, ground := Ground.data }, { on := 20, ground := Ground.data }], guard := Option.none }) rfl (fun K hK => ?_) AllReadyH.nil
          refine step_append_run rfl (.tmp 32) (.tmp 44) 53 rfl _ _ (by simp [Act.eval]) (by simp [Act.eval]) happ1 ?_
          refine hK.out _ _ keep3 (fun hS => ?_)
          clear hK K
          try simp only [Act.put, List.setIfInBounds_toArray, List.set_cons_zero, List.set_cons_succ]
          refine wpAnyH_take (i := 22) (oi := { dst := Option.some 46, op := Op.indexAddr 25 (Operand.tmp 25) (Operand.tmp 26), type := 0, pos := "law.go:54", after := #[{ on := 1, ground := Ground.data }, { on := 2, ground := Ground.data }, { on := 0, ground := Ground.phase }, { on := 1, ground := Ground.phase }, { on := 2, ground := Ground.phase }, { on := 3, ground := Ground.phase }, { on := 4, ground := Ground.phase }, { on := 5, ground := Ground.phase }, { on := 6, ground := Ground.phase }, { on := 7, ground := Ground.phase }, { on := 8, ground := Ground.phase }, { on := 9, ground := Ground.phase }, { on := 10, ground := Ground.phase }, { on := 11, ground := Ground.phase }, { on := 12, ground := Ground.phase }, { on := 13, ground := Ground.phase }, { on := 14, ground := Ground.phase }, { on := 15, ground := Ground.phase }, { on := 16, ground := Ground.phase }, { on := 17, ground := Ground.phase }, { on := 18, ground := Ground.phase }, { on := 19, ground := Ground.phase }, { on := 20, ground := Ground.phase }, { on := 21, ground := Ground.phase }], guard := Option.none }) (v := ?_) rfl (by kernel_rfl) (by kernel_rfl) (by kernel_rfl) (fun _ _ _ h => h) (Or.inl ⟨by rfl, ?_⟩) hS ?_
          rotate_left 1
          · rintro wx ⟨s0, s1, s2⟩
            (go_simp <;> (try with_reducible rfl))
          try simp only [Act.put, List.setIfInBounds_toArray, List.set_cons_zero, List.set_cons_succ]
          refine wpAnyH_take (i := 23) (oi := { dst := Option.some 47, op := Op.fieldAddr 55 (Operand.tmp 46) 1, type := 0, pos := "law.go:54", after := #[{ on := 22, ground := Ground.data }, { on := 0, ground := Ground.phase }, { on := 1, ground := Ground.phase }, { on := 2, ground := Ground.phase }, { on := 3, ground := Ground.phase }, { on := 4, ground := Ground.phase }, { on := 5, ground := Ground.phase }, { on := 6, ground := Ground.phase }, { on := 7, ground := Ground.phase }, { on := 8, ground := Ground.phase }, { on := 9, ground := Ground.phase }, { on := 10, ground := Ground.phase }, { on := 11, ground := Ground.phase }, { on := 12, ground := Ground.phase }, { on := 13, ground := Ground.phase }, { on := 14, ground := Ground.phase }, { on := 15, ground := Ground.phase }, { on := 16, ground := Ground.phase }, { on := 17, ground := Ground.phase }, { on := 18, ground := Ground.phase }, { on := 19, ground := Ground.phase }, { on := 20, ground := Ground.phase }, { on := 21, ground := Ground.phase }], guard := Option.none }) (v := ?_) rfl (by kernel_rfl) (by kernel_rfl) (by kernel_rfl) (fun _ _ _ h => h) (Or.inl ⟨by rfl, ?_⟩) hS ?_
          rotate_left 1
          · rintro wx ⟨s0, s1, s2⟩
            (go_simp <;> (try with_reducible rfl))
          try simp only [Act.put, List.setIfInBounds_toArray, List.set_cons_zero, List.set_cons_succ]
          refine wpAnyH_ready (rs := [24]) (by kernel_rfl) (by simp) ?_
          refine AllReadyH.cons (o := { dst := Option.none, op := Op.store 53 (Operand.tmp 47) (Operand.tmp 45), type := 0, pos := "law.go:54", after := #[{ on := 23, ground := Ground.data }, { on := 21, ground := Ground.data }, { on := 21, ground := Ground.chain }, { on := 0, ground := Ground.phase }, { on := 1, ground := Ground.phase }, { on := 2, ground := Ground.phase }, { on := 3, ground := Ground.phase }, { on := 4, ground := Ground.phase }, { on := 5, ground := Ground.phase }, { on := 6, ground := Ground.phase }, { on := 7, ground := Ground.phase }, { on := 8, ground := Ground.phase }, { on := 9, ground := Ground.phase }, { on := 10, ground := Ground.phase }, { on := 11, ground := Ground.phase }, { on := 12, ground := Ground.phase }, { on := 13, ground := Ground.phase }, { on := 14, ground := Ground.phase }, { on := 15, ground := Ground.phase }, { on := 16, ground := Ground.phase }, { on := 17, ground := Ground.phase }, { on := 18, ground := Ground.phase }, { on := 19, ground := Ground.phase }, { on := 20, ground := Ground.phase }, { on := 21, ground := Ground.phase }], guard := Option.none }) rfl (fun K hK => ?_) AllReadyH.nil
          go_simp
          refine hK.out _ _ keep4 (fun hS => ?_)
          clear hK K
          try simp only [Act.put, List.setIfInBounds_toArray, List.set_cons_zero, List.set_cons_succ]
          refine wpAnyH_done (by kernel_rfl) ?_ _
          go_wp2_with fail
          go_roundw
          case rel => exact RR.out
          case measure => simp [RowKit.intOf]; omega
      · trace "1"
        have HP := hid (show p.1 = 1 by unfold InTwo at hin; omega)
        have e0' : wr.cell? ⟨gb, go + j * 3, none⟩ = some (.int .i64 1) := by rw [← HP.out]; exact k0'
        obtain ⟨a2, c2, w3, happ, S3, hch⟩ := HS.out.drew.app1 (g := wr.heap.size) HM1.out rfl (by omega) p
        unfold cellC at happ
        have kk3 : ∀ {q : Addr} {u : Value}, wr.cell? q = some u → q.block ∉ own (Value.slice a1 m1 c1) → w3.cell? q = some u := fun {q u} hc hn => hch.cell (a := wr.drew) hc hn
        have f0 := kk3 e0' hgn1
        have f1 := kk3 k1' hgn1
        have f2 := kk3 k2' hgn1
        have t0 := cell_of (i := 0) HS.out.book rfl
        have t1 := cell_of (i := 1) HS.out.sheets rfl
        have t3 := cell_of (i := 3) HS.out.sheets rfl
        have u0 := cell_of (i := 0) S3.book rfl
        have u1 := cell_of (i := 1) S3.sheets rfl
        have u3 := cell_of (i := 3) S3.sheets rfl
        have fz := free_of (i := 3) S3.sheets
        have RR := hid (show SbRel w w1 A (.int .i64 ((j : Int) + 1)) (w3.setCell ⟨w.heap.size + 1, 3, none⟩ (.slice a2 (m1 + 1) c2)) from ⟨j + 1, _, _, by simp, by rw [← HN.out]; omega, by
          have hx := S3.set1
          have e1 := onSheet_next HP9.out 1
          have e2 := onSheet_next HP9.out 0
          rw [if_pos HP.out] at e1
          rw [if_neg (by rw [HP.out]; decide), List.append_nil] at e2
          rw [e1, e2]
          exact hx, (HC1.out.drew.trans hch (fun g hg => .inr (HOWN1.out g (mem_own' hg)))).setCell (.inl (by simp)) _⟩)
        have hsh := heap_lt HS.out.sheets
        have hbk := heap_lt HS.out.book
        have hgw := World.block_lt_of_cell? _ _ k0'
        simp only at hgw
        have keep3 := And.intro f1 (And.intro f2 u0)
        have gne : gb ≠ w.heap.size + 1 := by omega
        have keep4 := And.intro (cell_setCell_far (i := 3) f1 gne (.slice a2 (m1 + 1) c2)) (And.intro (cell_setCell_far (i := 3) f2 gne (.slice a2 (m1 + 1) c2)) (cell_setCell_far (i := 3) u0 (show w.heap.size + 1 + 1 ≠ w.heap.size + 1 by omega) (.slice a2 (m1 + 1) c2)))
        have bAl := (Below.refl wr.heap.size wr).alloc (Nat.le_refl _) (.cells #[.int .i64 p.2.1, .int .i64 p.2.2, .string text1] 58)
        have keep2 := And.intro ((bAl.cell (World.block_lt_of_cell? _ _ k1')).trans k1') (And.intro ((bAl.cell (World.block_lt_of_cell? _ _ k2')).trans k2') ((bAl.cell (World.block_lt_of_cell? _ _ t0)).trans t0))
        have tA3 := (bAl.cell (World.block_lt_of_cell? _ _ t3)).trans t3
        have happ1 : (Builtin.append_ #[53, 53] 53 #[.slice a1 m1 c1, .slice (some ⟨wr.heap.size, 0, none⟩) 1 1]).run Tryz.prog (wr.alloc (.cells #[.int .i64 p.2.1, .int .i64 p.2.2, .string text1] 58)).drew = .ok (.slice a2 (m1 + 1) c2) w3 := happ
        clear S3 hch k0' kk3 h0 hin happ bAl gne
        go_wp2_with fail
        refine wp_region_held_drew (S := fun y => y.cell? ⟨gb, go + j * 3 + 1, none⟩ = some (.int .i64 p.2.1) ∧ y.cell? ⟨gb, go + j * 3 + 2, none⟩ = some (.int .i64 p.2.2) ∧ y.cell? ⟨w.heap.size + 1 + 1, 0, none⟩ = some (.slice (some ⟨w.heap.size + 1, 0, none⟩) 2 2)) (by kernel_rfl) ⟨k1', k2', t0⟩ (fun hS => ?_)
        refine wpAnyH_take (i := 0) (oi := { dst := Option.some 24, op := Op.fieldAddr 30 (Operand.tmp 3) 0, type := 0, pos := "law.go:54", after := #[], guard := Option.none }) (v := ?_) rfl (by kernel_rfl) (by kernel_rfl) (by kernel_rfl) (fun _ _ _ h => h) (Or.inl ⟨by rfl, ?_⟩) hS ?_
        rotate_left 1
        · rintro wx ⟨s0, s1, s2⟩
          (go_simp <;> (try with_reducible rfl))
        try simp only [Act.put, List.setIfInBounds_toArray, List.set_cons_zero, List.set_cons_succ]
        refine wpAnyH_take (i := 1) (oi := { dst := Option.some 25, op := Op.load 25 (Operand.tmp 24), type := 25, pos := "law.go:54", after := #[{ on := 0, ground := Ground.data }], guard := Option.none }) (v := ?_) rfl (by kernel_rfl) (by kernel_rfl) (by kernel_rfl) (fun _ _ _ h => h) (Or.inl ⟨by rfl, ?_⟩) hS ?_
        rotate_left 1
        · rintro wx ⟨s0, s1, s2⟩
          (go_simp <;> (try with_reducible rfl))
        try simp only [Act.put, List.setIfInBounds_toArray, List.set_cons_zero, List.set_cons_succ]
        refine wpAnyH_take (i := 2) (oi := { dst := Option.some 26, op := Op.move (Operand.tmp 6), type := 3, pos := "law.go:54", after := #[], guard := Option.none }) (v := ?_) rfl (by kernel_rfl) (by kernel_rfl) (by kernel_rfl) (fun _ _ _ h => h) (Or.inl ⟨by rfl, ?_⟩) hS ?_
        rotate_left 1
        · rintro wx ⟨s0, s1, s2⟩
          (go_simp <;> (try with_reducible rfl))
        try simp only [Act.put, List.setIfInBounds_toArray, List.set_cons_zero, List.set_cons_succ]
        refine wpAnyH_take (i := 3) (oi := { dst := Option.some 27, op := Op.fieldAddr 30 (Operand.tmp 3) 0, type := 0, pos := "law.go:54", after := #[], guard := Option.none }) (v := ?_) rfl (by kernel_rfl) (by kernel_rfl) (by kernel_rfl) (fun _ _ _ h => h) (Or.inl ⟨by rfl, ?_⟩) hS ?_
        rotate_left 1
        · rintro wx ⟨s0, s1, s2⟩
          (go_simp <;> (try with_reducible rfl))
        try simp only [Act.put, List.setIfInBounds_toArray, List.set_cons_zero, List.set_cons_succ]
        refine wpAnyH_take (i := 4) (oi := { dst := Option.some 28, op := Op.load 25 (Operand.tmp 27), type := 25, pos := "law.go:54", after := #[{ on := 3, ground := Ground.data }], guard := Option.none }) (v := ?_) rfl (by kernel_rfl) (by kernel_rfl) (by kernel_rfl) (fun _ _ _ h => h) (Or.inl ⟨by rfl, ?_⟩) hS ?_
        rotate_left 1
        · rintro wx ⟨s0, s1, s2⟩
          (go_simp <;> (try with_reducible rfl))
        try simp only [Act.put, List.setIfInBounds_toArray, List.set_cons_zero, List.set_cons_succ]
        refine wpAnyH_take (i := 5) (oi := { dst := Option.some 29, op := Op.move (Operand.tmp 6), type := 3, pos := "law.go:54", after := #[], guard := Option.none }) (v := ?_) rfl (by kernel_rfl) (by kernel_rfl) (by kernel_rfl) (fun _ _ _ h => h) (Or.inl ⟨by rfl, ?_⟩) hS ?_
        rotate_left 1
        · rintro wx ⟨s0, s1, s2⟩
          (go_simp <;> (try with_reducible rfl))
        try simp only [Act.put, List.setIfInBounds_toArray, List.set_cons_zero, List.set_cons_succ]
        refine wpAnyH_take (i := 6) (oi := { dst := Option.some 30, op := Op.indexAddr 25 (Operand.tmp 28) (Operand.tmp 29), type := 0, pos := "law.go:54", after := #[{ on := 4, ground := Ground.data }, { on := 5, ground := Ground.data }], guard := Option.none }) (v := ?_) rfl (by kernel_rfl) (by kernel_rfl) (by kernel_rfl) (fun _ _ _ h => h) (Or.inl ⟨by rfl, ?_⟩) hS ?_
        rotate_left 1
        · rintro wx ⟨s0, s1, s2⟩
          (go_simp <;> (try with_reducible rfl))
        try simp only [Act.put, List.setIfInBounds_toArray, List.set_cons_zero, List.set_cons_succ]
        refine wpAnyH_take (i := 7) (oi := { dst := Option.some 31, op := Op.fieldAddr 55 (Operand.tmp 30) 1, type := 0, pos := "law.go:54", after := #[{ on := 6, ground := Ground.data }], guard := Option.none }) (v := ?_) rfl (by kernel_rfl) (by kernel_rfl) (by kernel_rfl) (fun _ _ _ h => h) (Or.inl ⟨by rfl, ?_⟩) hS ?_
        rotate_left 1
        · rintro wx ⟨s0, s1, s2⟩
          (go_simp <;> (try with_reducible rfl))
        try simp only [Act.put, List.setIfInBounds_toArray, List.set_cons_zero, List.set_cons_succ]
        refine wpAnyH_take (i := 9) (oi := { dst := Option.some 33, op := Op.move (Operand.tmp 4), type := 22, pos := "law.go:54", after := #[], guard := Option.none }) (v := ?_) rfl (by kernel_rfl) (by kernel_rfl) (by kernel_rfl) (fun _ _ _ h => h) (Or.inl ⟨by rfl, ?_⟩) hS ?_
        rotate_left 1
        · rintro wx ⟨s0, s1, s2⟩
          (go_simp <;> (try with_reducible rfl))
        try simp only [Act.put, List.setIfInBounds_toArray, List.set_cons_zero, List.set_cons_succ]
        refine wpAnyH_take (i := 10) (oi := { dst := Option.some 34, op := Op.move (Operand.tmp 5), type := 3, pos := "law.go:54", after := #[], guard := Option.none }) (v := ?_) rfl (by kernel_rfl) (by kernel_rfl) (by kernel_rfl) (fun _ _ _ h => h) (Or.inl ⟨by rfl, ?_⟩) hS ?_
        rotate_left 1
        · rintro wx ⟨s0, s1, s2⟩
          (go_simp <;> (try with_reducible rfl))
        try simp only [Act.put, List.setIfInBounds_toArray, List.set_cons_zero, List.set_cons_succ]
        refine wpAnyH_take (i := 11) (oi := { dst := Option.some 35, op := Op.indexAddr 22 (Operand.tmp 33) (Operand.tmp 34), type := 0, pos := "law.go:54", after := #[{ on := 9, ground := Ground.data }, { on := 10, ground := Ground.data }], guard := Option.none }) (v := ?_) rfl (by kernel_rfl) (by kernel_rfl) (by kernel_rfl) (fun _ _ _ h => h) (Or.inl ⟨by rfl, ?_⟩) hS ?_
        rotate_left 1
        · rintro wx ⟨s0, s1, s2⟩
          (go_simp <;> (try with_reducible rfl))
        try simp only [Act.put, List.setIfInBounds_toArray, List.set_cons_zero, List.set_cons_succ]
        refine wpAnyH_take (i := 12) (oi := { dst := Option.some 36, op := Op.fieldAddr 38 (Operand.tmp 35) 1, type := 0, pos := "law.go:54", after := #[{ on := 11, ground := Ground.data }], guard := Option.none }) (v := ?_) rfl (by kernel_rfl) (by kernel_rfl) (by kernel_rfl) (fun _ _ _ h => h) (Or.inl ⟨by rfl, ?_⟩) hS ?_
        rotate_left 1
        · rintro wx ⟨s0, s1, s2⟩
          (go_simp <;> (try with_reducible rfl))
        try simp only [Act.put, List.setIfInBounds_toArray, List.set_cons_zero, List.set_cons_succ]
        refine wpAnyH_take (i := 13) (oi := { dst := Option.some 37, op := Op.load 3 (Operand.tmp 36), type := 3, pos := "law.go:54", after := #[{ on := 12, ground := Ground.data }], guard := Option.none }) (v := ?_) rfl (by kernel_rfl) (by kernel_rfl) (by kernel_rfl) (fun _ _ _ h => h) (Or.inl ⟨by rfl, ?_⟩) hS ?_
        rotate_left 1
        · rintro wx ⟨s0, s1, s2⟩
          (go_simp <;> (try with_reducible rfl))
        try simp only [Act.put, List.setIfInBounds_toArray, List.set_cons_zero, List.set_cons_succ]
        refine wpAnyH_take (i := 14) (oi := { dst := Option.some 38, op := Op.move (Operand.tmp 4), type := 22, pos := "law.go:54", after := #[], guard := Option.none }) (v := ?_) rfl (by kernel_rfl) (by kernel_rfl) (by kernel_rfl) (fun _ _ _ h => h) (Or.inl ⟨by rfl, ?_⟩) hS ?_
        rotate_left 1
        · rintro wx ⟨s0, s1, s2⟩
          (go_simp <;> (try with_reducible rfl))
        try simp only [Act.put, List.setIfInBounds_toArray, List.set_cons_zero, List.set_cons_succ]
        refine wpAnyH_take (i := 15) (oi := { dst := Option.some 39, op := Op.move (Operand.tmp 5), type := 3, pos := "law.go:54", after := #[], guard := Option.none }) (v := ?_) rfl (by kernel_rfl) (by kernel_rfl) (by kernel_rfl) (fun _ _ _ h => h) (Or.inl ⟨by rfl, ?_⟩) hS ?_
        rotate_left 1
        · rintro wx ⟨s0, s1, s2⟩
          (go_simp <;> (try with_reducible rfl))
        try simp only [Act.put, List.setIfInBounds_toArray, List.set_cons_zero, List.set_cons_succ]
        refine wpAnyH_take (i := 16) (oi := { dst := Option.some 40, op := Op.indexAddr 22 (Operand.tmp 38) (Operand.tmp 39), type := 0, pos := "law.go:54", after := #[{ on := 14, ground := Ground.data }, { on := 15, ground := Ground.data }], guard := Option.none }) (v := ?_) rfl (by kernel_rfl) (by kernel_rfl) (by kernel_rfl) (fun _ _ _ h => h) (Or.inl ⟨by rfl, ?_⟩) hS ?_
        rotate_left 1
        · rintro wx ⟨s0, s1, s2⟩
          (go_simp <;> (try with_reducible rfl))
        try simp only [Act.put, List.setIfInBounds_toArray, List.set_cons_zero, List.set_cons_succ]
        refine wpAnyH_take (i := 17) (oi := { dst := Option.some 41, op := Op.fieldAddr 38 (Operand.tmp 40) 2, type := 0, pos := "law.go:54", after := #[{ on := 16, ground := Ground.data }], guard := Option.none }) (v := ?_) rfl (by kernel_rfl) (by kernel_rfl) (by kernel_rfl) (fun _ _ _ h => h) (Or.inl ⟨by rfl, ?_⟩) hS ?_
        rotate_left 1
        · rintro wx ⟨s0, s1, s2⟩
          (go_simp <;> (try with_reducible rfl))
        try simp only [Act.put, List.setIfInBounds_toArray, List.set_cons_zero, List.set_cons_succ]
        refine wpAnyH_take (i := 18) (oi := { dst := Option.some 42, op := Op.load 3 (Operand.tmp 41), type := 3, pos := "law.go:54", after := #[{ on := 17, ground := Ground.data }], guard := Option.none }) (v := ?_) rfl (by kernel_rfl) (by kernel_rfl) (by kernel_rfl) (fun _ _ _ h => h) (Or.inl ⟨by rfl, ?_⟩) hS ?_
        rotate_left 1
        · rintro wx ⟨s0, s1, s2⟩
          (go_simp <;> (try with_reducible rfl))
        try simp only [Act.put, List.setIfInBounds_toArray, List.set_cons_zero, List.set_cons_succ]
        refine wpAnyH_take (i := 19) (oi := { dst := Option.some 43, op := Op.build 58 #[(0, Operand.tmp 37), (1, Operand.tmp 42), (2, Operand.const (Value.string { data := #[49] }))], type := 58, pos := "law.go:54", after := #[{ on := 13, ground := Ground.data }, { on := 18, ground := Ground.data }], guard := Option.none }) (v := ?_) rfl (by kernel_rfl) (by kernel_rfl) (by kernel_rfl) (fun _ _ _ h => h) (Or.inl ⟨by rfl, ?_⟩) hS ?_
        rotate_left 1
        · rintro wx ⟨s0, s1, s2⟩
          (go_simp <;> (try with_reducible rfl))
        try simp only [Act.put, List.setIfInBounds_toArray, List.set_cons_zero, List.set_cons_succ]
        refine wpAnyH_ready (rs := [8, 20]) (by kernel_rfl) (by simp) ?_
        refine AllReadyH.cons (o := { dst := Option.some 32, op := Op.load 53 (Operand.tmp 31), type := 53, pos := "law.go:54", after := #[{ on := 7, ground := Ground.data }], guard := Option.none }) rfl (fun K hK => ?_) (AllReadyH.cons (o := { dst := Option.some 44, op := Op.buildSlice 53 1 #[(0, Operand.tmp 43)], type := 53, pos := "law.go:54", after := #[{ on := 19, ground := Ground.data }], guard := Option.none }) rfl (fun K hK => ?_) AllReadyH.nil)
        · go_simp
          refine hK.out _ _ ⟨k1', k2', t0⟩ (fun hS => ?_)
          clear hK K
          try simp only [Act.put, List.setIfInBounds_toArray, List.set_cons_zero, List.set_cons_succ]
          refine wpAnyH_ready (rs := [20]) (by kernel_rfl) (by simp) ?_
          refine AllReadyH.cons (o := { dst := Option.some 44, op := Op.buildSlice 53 1 #[(0, Operand.tmp 43)], type := 53, pos := "law.go:54", after := #[{ on := 19, ground := Ground.data }], guard := Option.none }) rfl (fun K hK => ?_) AllReadyH.nil
          go_simp
          refine hK.out _ _ keep2 (fun hS => ?_)
          clear hK K
          try simp only [Act.put, List.setIfInBounds_toArray, List.set_cons_zero, List.set_cons_succ]
          refine wpAnyH_ready (rs := [21]) (by kernel_rfl) (by simp) ?_
          refine AllReadyH.cons (o := { dst := Option.some 45, op := Op.call { callee := Callee.builtin Builtin.append, args := #[Operand.tmp 32, Operand.tmp 44], argTypes := #[53, 53] }, type := 53, pos := "law.go:54", after := #[{ on := 8, ground := Ground.data }, { on := 20, ground := Ground.data }], guard := Option.none }) rfl (fun K hK => ?_) AllReadyH.nil
          refine step_append_run rfl (.tmp 32) (.tmp 44) 53 rfl _ _ (by simp [Act.eval]) (by simp [Act.eval]) happ1 ?_
          refine hK.out _ _ keep3 (fun hS => ?_)
          clear hK K
          try simp only [Act.put, List.setIfInBounds_toArray, List.set_cons_zero, List.set_cons_succ]
          refine wpAnyH_take (i := 22) (oi := { dst := Option.some 46, op := Op.indexAddr 25 (Operand.tmp 25) (Operand.tmp 26), type := 0, pos := "law.go:54", after := #[{ on := 1, ground := Ground.data }, { on := 2, ground := Ground.data }, { on := 0, ground := Ground.phase }, { on := 1, ground := Ground.phase }, { on := 2, ground := Ground.phase }, { on := 3, ground := Ground.phase }, { on := 4, ground := Ground.phase }, { on := 5, ground := Ground.phase }, { on := 6, ground := Ground.phase }, { on := 7, ground := Ground.phase }, { on := 8, ground := Ground.phase }, { on := 9, ground := Ground.phase }, { on := 10, ground := Ground.phase }, { on := 11, ground := Ground.phase }, { on := 12, ground := Ground.phase }, { on := 13, ground := Ground.phase }, { on := 14, ground := Ground.phase }, { on := 15, ground := Ground.phase }, { on := 16, ground := Ground.phase }, { on := 17, ground := Ground.phase }, { on := 18, ground := Ground.phase }, { on := 19, ground := Ground.phase }, { on := 20, ground := Ground.phase }, { on := 21, ground := Ground.phase }], guard := Option.none }) (v := ?_) rfl (by kernel_rfl) (by kernel_rfl) (by kernel_rfl) (fun _ _ _ h => h) (Or.inl ⟨by rfl, ?_⟩) hS ?_
          rotate_left 1
          · rintro wx ⟨s0, s1, s2⟩
            (go_simp <;> (try with_reducible rfl))
          try simp only [Act.put, List.setIfInBounds_toArray, List.set_cons_zero, List.set_cons_succ]
          refine wpAnyH_take (i := 23) (oi := { dst := Option.some 47, op := Op.fieldAddr 55 (Operand.tmp 46) 1, type := 0, pos := "law.go:54", after := #[{ on := 22, ground := Ground.data }, { on := 0, ground := Ground.phase }, { on := 1, ground := Ground.phase }, { on := 2, ground := Ground.phase }, { on := 3, ground := Ground.phase }, { on := 4, ground := Ground.phase }, { on := 5, ground := Ground.phase }, { on := 6, ground := Ground.phase }, { on := 7, ground := Ground.phase }, { on := 8, ground := Ground.phase }, { on := 9, ground := Ground.phase }, { on := 10, ground := Ground.phase }, { on := 11, ground := Ground.phase }, { on := 12, ground := Ground.phase }, { on := 13, ground := Ground.phase }, { on := 14, ground := Ground.phase }, { on := 15, ground := Ground.phase }, { on := 16, ground := Ground.phase }, { on := 17, ground := Ground.phase }, { on := 18, ground := Ground.phase }, { on := 19, ground := Ground.phase }, { on := 20, ground := Ground.phase }, { on := 21, ground := Ground.phase }], guard := Option.none }) (v := ?_) rfl (by kernel_rfl) (by kernel_rfl) (by kernel_rfl) (fun _ _ _ h => h) (Or.inl ⟨by rfl, ?_⟩) hS ?_
          rotate_left 1
          · rintro wx ⟨s0, s1, s2⟩
            (go_simp <;> (try with_reducible rfl))
          try simp only [Act.put, List.setIfInBounds_toArray, List.set_cons_zero, List.set_cons_succ]
          refine wpAnyH_ready (rs := [24]) (by kernel_rfl) (by simp) ?_
          refine AllReadyH.cons (o := { dst := Option.none, op := Op.store 53 (Operand.tmp 47) (Operand.tmp 45), type := 0, pos := "law.go:54", after := #[{ on := 23, ground := Ground.data }, { on := 21, ground := Ground.data }, { on := 21, ground := Ground.chain }, { on := 0, ground := Ground.phase }, { on := 1, ground := Ground.phase }, { on := 2, ground := Ground.phase }, { on := 3, ground := Ground.phase }, { on := 4, ground := Ground.phase }, { on := 5, ground := Ground.phase }, { on := 6, ground := Ground.phase }, { on := 7, ground := Ground.phase }, { on := 8, ground := Ground.phase }, { on := 9, ground := Ground.phase }, { on := 10, ground := Ground.phase }, { on := 11, ground := Ground.phase }, { on := 12, ground := Ground.phase }, { on := 13, ground := Ground.phase }, { on := 14, ground := Ground.phase }, { on := 15, ground := Ground.phase }, { on := 16, ground := Ground.phase }, { on := 17, ground := Ground.phase }, { on := 18, ground := Ground.phase }, { on := 19, ground := Ground.phase }, { on := 20, ground := Ground.phase }, { on := 21, ground := Ground.phase }], guard := Option.none }) rfl (fun K hK => ?_) AllReadyH.nil
          go_simp
          refine hK.out _ _ keep4 (fun hS => ?_)
          clear hK K
          try simp only [Act.put, List.setIfInBounds_toArray, List.set_cons_zero, List.set_cons_succ]
          refine wpAnyH_done (by kernel_rfl) ?_ _
          go_wp2_with fail
          go_roundw
          case rel => exact RR.out
          case measure => simp [RowKit.intOf]; omega
        · go_simp
          refine hK.out _ _ keep2 (fun hS => ?_)
          clear hK K
          try simp only [Act.put, List.setIfInBounds_toArray, List.set_cons_zero, List.set_cons_succ]
          refine wpAnyH_ready (rs := [8]) (by kernel_rfl) (by simp) ?_
          refine AllReadyH.cons (o := { dst := Option.some 32, op := Op.load 53 (Operand.tmp 31), type := 53, pos := "law.go:54", after := #[{ on := 7, ground := Ground.data }], guard := Option.none }) rfl (fun K hK => ?_) AllReadyH.nil
          go_simp
          refine hK.out _ _ keep2 (fun hS => ?_)
          clear hK K
          try simp only [Act.put, List.setIfInBounds_toArray, List.set_cons_zero, List.set_cons_succ]
          refine wpAnyH_ready (rs := [21]) (by kernel_rfl) (by simp) ?_
          refine AllReadyH.cons (o := { dst := Option.some 45, op := Op.call { callee := Callee.builtin Builtin.append, args := #[Operand.tmp 32, Operand.tmp 44], argTypes := #[53, 53] }, type := 53, pos := "law.go:54", after := #[{ on := 8, ground := Ground.data }, { on := 20, ground := Ground.data }], guard := Option.none }) rfl (fun K hK => ?_) AllReadyH.nil
          refine step_append_run rfl (.tmp 32) (.tmp 44) 53 rfl _ _ (by simp [Act.eval]) (by simp [Act.eval]) happ1 ?_
          refine hK.out _ _ keep3 (fun hS => ?_)
          clear hK K
          try simp only [Act.put, List.setIfInBounds_toArray, List.set_cons_zero, List.set_cons_succ]
          refine wpAnyH_take (i := 22) (oi := { dst := Option.some 46, op := Op.indexAddr 25 (Operand.tmp 25) (Operand.tmp 26), type := 0, pos := "law.go:54", after := #[{ on := 1, ground := Ground.data }, { on := 2, ground := Ground.data }, { on := 0, ground := Ground.phase }, { on := 1, ground := Ground.phase }, { on := 2, ground := Ground.phase }, { on := 3, ground := Ground.phase }, { on := 4, ground := Ground.phase }, { on := 5, ground := Ground.phase }, { on := 6, ground := Ground.phase }, { on := 7, ground := Ground.phase }, { on := 8, ground := Ground.phase }, { on := 9, ground := Ground.phase }, { on := 10, ground := Ground.phase }, { on := 11, ground := Ground.phase }, { on := 12, ground := Ground.phase }, { on := 13, ground := Ground.phase }, { on := 14, ground := Ground.phase }, { on := 15, ground := Ground.phase }, { on := 16, ground := Ground.phase }, { on := 17, ground := Ground.phase }, { on := 18, ground := Ground.phase }, { on := 19, ground := Ground.phase }, { on := 20, ground := Ground.phase }, { on := 21, ground := Ground.phase }], guard := Option.none }) (v := ?_) rfl (by kernel_rfl) (by kernel_rfl) (by kernel_rfl) (fun _ _ _ h => h) (Or.inl ⟨by rfl, ?_⟩) hS ?_
          rotate_left 1
          · rintro wx ⟨s0, s1, s2⟩
            (go_simp <;> (try with_reducible rfl))
          try simp only [Act.put, List.setIfInBounds_toArray, List.set_cons_zero, List.set_cons_succ]
          refine wpAnyH_take (i := 23) (oi := { dst := Option.some 47, op := Op.fieldAddr 55 (Operand.tmp 46) 1, type := 0, pos := "law.go:54", after := #[{ on := 22, ground := Ground.data }, { on := 0, ground := Ground.phase }, { on := 1, ground := Ground.phase }, { on := 2, ground := Ground.phase }, { on := 3, ground := Ground.phase }, { on := 4, ground := Ground.phase }, { on := 5, ground := Ground.phase }, { on := 6, ground := Ground.phase }, { on := 7, ground := Ground.phase }, { on := 8, ground := Ground.phase }, { on := 9, ground := Ground.phase }, { on := 10, ground := Ground.phase }, { on := 11, ground := Ground.phase }, { on := 12, ground := Ground.phase }, { on := 13, ground := Ground.phase }, { on := 14, ground := Ground.phase }, { on := 15, ground := Ground.phase }, { on := 16, ground := Ground.phase }, { on := 17, ground := Ground.phase }, { on := 18, ground := Ground.phase }, { on := 19, ground := Ground.phase }, { on := 20, ground := Ground.phase }, { on := 21, ground := Ground.phase }], guard := Option.none }) (v := ?_) rfl (by kernel_rfl) (by kernel_rfl) (by kernel_rfl) (fun _ _ _ h => h) (Or.inl ⟨by rfl, ?_⟩) hS ?_
          rotate_left 1
          · rintro wx ⟨s0, s1, s2⟩
            (go_simp <;> (try with_reducible rfl))
          try simp only [Act.put, List.setIfInBounds_toArray, List.set_cons_zero, List.set_cons_succ]
          refine wpAnyH_ready (rs := [24]) (by kernel_rfl) (by simp) ?_
          refine AllReadyH.cons (o := { dst := Option.none, op := Op.store 53 (Operand.tmp 47) (Operand.tmp 45), type := 0, pos := "law.go:54", after := #[{ on := 23, ground := Ground.data }, { on := 21, ground := Ground.data }, { on := 21, ground := Ground.chain }, { on := 0, ground := Ground.phase }, { on := 1, ground := Ground.phase }, { on := 2, ground := Ground.phase }, { on := 3, ground := Ground.phase }, { on := 4, ground := Ground.phase }, { on := 5, ground := Ground.phase }, { on := 6, ground := Ground.phase }, { on := 7, ground := Ground.phase }, { on := 8, ground := Ground.phase }, { on := 9, ground := Ground.phase }, { on := 10, ground := Ground.phase }, { on := 11, ground := Ground.phase }, { on := 12, ground := Ground.phase }, { on := 13, ground := Ground.phase }, { on := 14, ground := Ground.phase }, { on := 15, ground := Ground.phase }, { on := 16, ground := Ground.phase }, { on := 17, ground := Ground.phase }, { on := 18, ground := Ground.phase }, { on := 19, ground := Ground.phase }, { on := 20, ground := Ground.phase }, { on := 21, ground := Ground.phase }], guard := Option.none }) rfl (fun K hK => ?_) AllReadyH.nil
          go_simp
          refine hK.out _ _ keep4 (fun hS => ?_)
          clear hK K
          try simp only [Act.put, List.setIfInBounds_toArray, List.set_cons_zero, List.set_cons_succ]
          refine wpAnyH_done (by kernel_rfl) ?_ _
          go_wp2_with fail
          go_roundw
          case rel => exact RR.out
          case measure => simp [RowKit.intOf]; omega
    · obtain rfl : j = an := by omega
      have b0 := cell_of (i := 0) HS.out.book rfl
      have b1 := cell_of (i := 1) HS.out.book rfl
      have b2 := cell_of (i := 2) HS.out.book rfl
      have b3 := cell_of (i := 3) HS.out.book rfl
      have f0 := free_of (i := 0) HS.out.res
      have f1 := free_of (i := 1) HS.out.res
      have f2 := free_of (i := 2) HS.out.res
      have f3 := free_of (i := 3) HS.out.res
      have d0 := cell_of (i := 0) HS.out.res rfl
      have d1 := cell_of (i := 1) HS.out.res rfl
      have d2 := cell_of (i := 2) HS.out.res rfl
      have d3 := cell_of (i := 3) HS.out.res rfl
      have HE := hid (show A.take j = A by rw [HAN.out, List.take_length])
      go_wp2_with fail
      refine bodyPost_ret (v := .agg #[.slice (some ⟨w.heap.size + 1, 0, none⟩) 2 2, .slice none 0 0, .slice none 0 0, .slice none 0 0]) (by simp [results, Tryz.results5, go_sem, *]) rfl ?_
      clear b0 b1 b2 b3 f0 f1 f2 f3 d0 d1 d2 d3
      have hS := HS.out
      rw [HE.out] at hS
      have hc : ∀ (x0 x1 x2 x3 : Value), Chg [w.heap.size] wr ((((wr.setCell ⟨w.heap.size, 0, none⟩ x0).setCell ⟨w.heap.size, 1, none⟩ x1).setCell ⟨w.heap.size, 2, none⟩ x2).setCell ⟨w.heap.size, 3, none⟩ x3) := fun x0 x1 x2 x3 => ((((Chg.refl _ wr).setCell (.inl (by simp)) _).setCell (.inl (by simp)) _).setCell (.inl (by simp)) _).setCell (.inl (by simp)) _
      have hcc := hc (.slice (some ⟨w.heap.size + 1, 0, none⟩) 2 2) (.slice none 0 0) (.slice none 0 0) (.slice none 0 0)
      have hsh := hcc.heap hS.sheets (by simp)
      have q0 := hS.c0.chg hcc (fun g hg hm => by simp at hm; have := (hS.c0.low g hg).1; omega)
      have q1 := hS.c1.chg hcc (fun g hg hm => by simp at hm; have := (hS.c1.low g hg).1; omega)
      exact ⟨⟨_, rfl, ⟨w.heap.size + 1, 0, 2, _, _, Nat.le_refl _, rfl, cell_of hsh rfl, cell_of hsh rfl, cell_of hsh rfl, cell_of hsh rfl, q0.read, q1.read⟩, HOK.out.rising, HOK.out.two, Nat.le_trans HOK.out.few (by decide), fun p hp => inOk_one⟩, (((hS.low.setCell (by simp) _).setCell (by simp) _).setCell (by simp) _).setCell (by simp) _⟩
end Go.Proofs.YthkjmplcmfabfaaGreatDoor
