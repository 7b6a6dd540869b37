/- Contracts of utf8.ValidString, ref.name, ref.Right at the two sheets' names. No condition. The bodies of strings.Map and of all that it calls are the ones that the shelf's contract was proved of (by the shelf's tool lay-plain.mjs; numbers of the seat). No condition. Contracts of book.fold, book.twice at the two sheets' names. Condition: utf8's tables lie as they were laid. Contracts of the closures that strings.Map is given, of tree.great, names.fold. Condition: utf8's tables lie as they were laid. Contracts of strconv.Atoi, strconv.Itoa at the numbers below 100, of ref's small functions. No condition. Contracts of ref.Right, ref.Column, ref.ReadColumn, ref.sheet, of the closures of ref.Read. Condition: utf8's tables lie as they were laid. -/
import Derived.Test.YtpcjfgihglfdgaaGreatDoorKSpSmallA
import Derived.LoopN
import Derived.Laws.RangeString
import Derived.Shelf.Strings.MapAny
import Derived.Test.YtpcjfgihglfdgaaGreatDoorRows
import Derived.Deep.RegionHeldLaw
import Derived.Test.YtpcjfgihglfdgaaGreatDoorKDkBase
import Derived.Lib.ConvBytes

namespace Go.Proofs.YtpcjfgihglfdgaaGreatDoor
open Go.RowKit Go.Lib

abbrev nameS : ByteArray := ⟨#[83]⟩
abbrev nameT : ByteArray := ⟨#[84]⟩
def IsName (s : ByteArray) : Prop := s = nameS ∨ s = nameT

set_option maxRecDepth 20000 in
set_option maxHeartbeats 1000000 in
theorem valid_name (s : ByteArray) (hs : IsName s) (w : World) : Calls Tryz.prog 129 #[.string s] w fun e w' => e = .returned (.bool true) ∧ w = w' := by
  rcases hs with rfl | rfl
  all_goals
    go_enter Tryz.func129, Tryz.ntmps129
    go_wp2_with fail
    refine wp_loop_rounds 2 ?_
    rw [rounds_succ]
    go_wp2_with fail
    rw [rounds_succ]
    go_wp2_with fail
    go_ret
    exact ⟨rfl, rfl⟩

set_option maxRecDepth 20000 in
set_option maxHeartbeats 1000000 in
theorem name_any (s : ByteArray) (hs : IsName s) (w : World) : Calls Tryz.prog 80 #[.string s] w fun e w' => e = .returned (.bool true) ∧ Below w.heap.size w w' := by
  have HV := hid (fun w => valid_name s hs w)
  rcases hs with rfl | rfl
  · have h1 := fun ty => run_next_ascii (P := Tryz.prog) w nameS 0 ty (by decide) (by decide)
    have h2 := fun ty => run_next_end (P := Tryz.prog) w nameS 1 ty (by decide)
    go_enter Tryz.func80, Tryz.ntmps80
    go_wp2_with fail
    refine wp_loop_rounds 2 ?_
    rw [rounds_succ]
    go_wp2_with fail
    rw [rounds_succ]
    go_wp2_with fail
    refine (HV.out _).mono ?_
    rintro e w1 ⟨rfl, rfl⟩
    go_wp2_with fail
    go_ret
    exact ⟨rfl, (Below.refl _ w).alloc (Nat.le_refl _) _⟩
  · have h1 := fun ty => run_next_ascii (P := Tryz.prog) w nameT 0 ty (by decide) (by decide)
    have h2 := fun ty => run_next_end (P := Tryz.prog) w nameT 1 ty (by decide)
    go_enter Tryz.func80, Tryz.ntmps80
    go_wp2_with fail
    refine wp_loop_rounds 2 ?_
    rw [rounds_succ]
    go_wp2_with fail
    rw [rounds_succ]
    go_wp2_with fail
    refine (HV.out _).mono ?_
    rintro e w1 ⟨rfl, rfl⟩
    go_wp2_with fail
    go_ret
    exact ⟨rfl, (Below.refl _ w).alloc (Nat.le_refl _) _⟩

set_option maxHeartbeats 1000000 in
theorem Right_any (s : ByteArray) (hs : IsName s) (w : World) : Calls Tryz.prog 36 #[.agg #[.string s, .int .i64 0, .int .i64 0, .bool false, .bool false, .bool false]] w fun e w' => e = .returned (.bool true) ∧ Below w.heap.size w w' := by
  have HV := hid (fun w => name_any s hs w)
  rcases hs with rfl | rfl
  all_goals
    go_enter Tryz.func36, Tryz.ntmps36
    go_wp2_with fail
    refine (HV.out _).mono ?_
    rintro e w1 ⟨rfl, b1⟩
    have c1 := (b1.cell (p := ⟨w.heap.size, 1, none⟩) (by simp)).trans (cell_of (heap_alloc_new w _) rfl)
    have c2 := (b1.cell (p := ⟨w.heap.size, 2, none⟩) (by simp)).trans (cell_of (heap_alloc_new w _) rfl)
    go_wp2_with fail
    go_ret
    exact ⟨rfl, ((Below.refl _ w).alloc (Nat.le_refl _) _).trans (b1.mono (by simp))⟩
end Go.Proofs.YtpcjfgihglfdgaaGreatDoor

namespace Go.Proofs.YtpcjfgihglfdgaaGreatDoor
open Go.Shelf
def laysMap_ren : Go.Shelf.Ren := ⟨fun | 230 => 131 | 197 => 174 | 118 => 175 | 165 => 176 | 166 => 177 | 168 => 178 | 270 => 179 | 167 => 180 | 169 => 181 | 260 => 232 | 240 => 233 | 241 => 234 | 242 => 235 | 276 => 289 | 277 => 290 | 278 => 291 | n => n, fun | 107 => 227 | 9 => 9 | 72 => 292 | 0 => 0 | 4 => 4 | 3 => 3 | 21 => 21 | 105 => 293 | 76 => 296 | 5 => 5 | 75 => 123 | 70 => 290 | 20 => 20 | 37 => 50 | 127 => 342 | 119 => 286 | 46 => 135 | 139 => 289 | 138 => 288 | 164 => 366 | 51 => 205 | 80 => 300 | n => n, fun | 3 => 2 | 4 => 3 | n => n⟩
theorem laysMap : Go.Proofs.Lays.n230 Tryz.prog laysMap_ren := {
  mixed := by kernel_rfl
  f118 := Tryz.func175.trans (congrArg some (by kernel_rfl))
  f165 := Tryz.func176.trans (congrArg some (by kernel_rfl))
  f166 := Tryz.func177.trans (congrArg some (by kernel_rfl))
  f167 := Tryz.func180.trans (congrArg some (by kernel_rfl))
  f168 := Tryz.func178.trans (congrArg some (by kernel_rfl))
  f169 := Tryz.func181.trans (congrArg some (by kernel_rfl))
  f197 := Tryz.func174.trans (congrArg some (by kernel_rfl))
  f230 := Tryz.func131.trans (congrArg some (by kernel_rfl))
  f240 := Tryz.func233.trans (congrArg some (by kernel_rfl))
  f241 := Tryz.func234.trans (congrArg some (by kernel_rfl))
  f242 := Tryz.func235.trans (congrArg some (by kernel_rfl))
  f260 := Tryz.func232.trans (congrArg some (by kernel_rfl))
  f270 := Tryz.func179.trans (congrArg some (by kernel_rfl))
  f276 := Tryz.func289.trans (congrArg some (by kernel_rfl))
  f277 := Tryz.func290.trans (congrArg some (by kernel_rfl))
  f278 := Tryz.func291.trans (congrArg some (by kernel_rfl))
  t0 := Tryz.underlying0
  a0 := Tryz.isAgg0
  z0 := Tryz.sizeOf0
  v0 := Tryz.zeroValue0
  t3 := Tryz.underlying3
  a3 := Tryz.isAgg3
  z3 := Tryz.sizeOf3
  v3 := Tryz.zeroValue3
  t4 := Tryz.underlying4
  a4 := Tryz.isAgg4
  z4 := Tryz.sizeOf4
  v4 := Tryz.zeroValue4
  t5 := Tryz.underlying5
  a5 := Tryz.isAgg5
  z5 := Tryz.sizeOf5
  v5 := Tryz.zeroValue5
  t9 := Tryz.underlying9
  a9 := Tryz.isAgg9
  z9 := Tryz.sizeOf9
  v9 := Tryz.zeroValue9
  t20 := Tryz.underlying20
  a20 := Tryz.isAgg20
  z20 := Tryz.sizeOf20
  v20 := Tryz.zeroValue20
  t21 := Tryz.underlying21
  a21 := Tryz.isAgg21
  z21 := Tryz.sizeOf21
  v21 := Tryz.zeroValue21
  t37 := Tryz.underlying50
  a37 := Tryz.isAgg50
  z37 := Tryz.sizeOf50
  v37 := Tryz.zeroValue50
  t46 := Tryz.underlying135
  a46 := Tryz.isAgg135
  z46 := Tryz.sizeOf135
  v46 := Tryz.zeroValue135
  t51 := Tryz.underlying205
  a51 := Tryz.isAgg205
  z51 := Tryz.sizeOf205
  v51 := Tryz.zeroValue205
  t70 := Tryz.underlying290
  a70 := Tryz.isAgg290
  z70 := Tryz.sizeOf290
  v70 := Tryz.zeroValue290
  t72 := Tryz.underlying292
  a72 := Tryz.isAgg292
  z72 := Tryz.sizeOf292
  v72 := Tryz.zeroValue292
  t75 := Tryz.underlying123
  a75 := Tryz.isAgg123
  z75 := Tryz.sizeOf123
  v75 := Tryz.zeroValue123
  t76 := Tryz.underlying296
  a76 := Tryz.isAgg296
  z76 := Tryz.sizeOf296
  v76 := Tryz.zeroValue296
  t105 := Tryz.underlying293
  a105 := Tryz.isAgg293
  z105 := Tryz.sizeOf293
  v105 := Tryz.zeroValue293
  t107 := Tryz.underlying227
  a107 := Tryz.isAgg227
  z107 := Tryz.sizeOf227
  v107 := Tryz.zeroValue227
  t119 := Tryz.underlying286
  a119 := Tryz.isAgg286
  z119 := Tryz.sizeOf286
  t127 := Tryz.underlying342
  a127 := Tryz.isAgg342
  z127 := Tryz.sizeOf342
  v127 := Tryz.zeroValue342
  t138 := Tryz.underlying288
  a138 := Tryz.isAgg288
  z138 := Tryz.sizeOf288
  v138 := Tryz.zeroValue288
  t139 := Tryz.underlying289
  a139 := Tryz.isAgg289
  z139 := Tryz.sizeOf289
  v139 := Tryz.zeroValue289
  t164 := Tryz.underlying366
  a164 := Tryz.isAgg366
  z164 := Tryz.sizeOf366
  v164 := Tryz.zeroValue366
  g3 := by kernel_rfl
  g4 := by kernel_rfl }
end Go.Proofs.YtpcjfgihglfdgaaGreatDoor

namespace Go.Proofs.YtpcjfgihglfdgaaGreatDoor
open Go.RowKit Go.Lib Go.Shelf

/-- utf8's two tables lie as they were laid -/
def Tabs (w : World) : Prop := Lib.Utf8Tabs (laysMap_ren.g 3) (laysMap_ren.g 4) w
theorem Tabs.below {w w' : World} (h : Tabs w) (hb : Below w.heap.size w w') : Tabs w' := Utf8Tabs_below h hb

theorem mapExtra : Builder.Extra Tryz.prog laysMap_ren where
  sizeBuilder := by kernel_rfl
  liesBuilder := by kernel_rfl
  t5 := laysMap.t5
  a5 := laysMap.a5
  z5 := laysMap.z5
  v5 := laysMap.v5
  infoByte := by kernel_rfl
  cellsByte := by kernel_rfl
  sizeByte := by kernel_rfl
  neB5 := by decide

def low (x : Int) : Int := if 65 ≤ x ∧ x ≤ 90 then x + 32 else x
set_option maxHeartbeats 400000 in
theorem indexSh_none (ao : Option Addr) (c : Nat) (fv : Value) (w : World) : Calls Tryz.prog 130 #[.slice ao 0 c, fv] w fun e w' => e = .returned (.int .i64 (-1)) ∧ w = w' := by
  go_enter Tryz.func130, Tryz.ntmps130
  go_wp2_with fail
  refine wp_loop_rounds 1 ?_
  rw [rounds_succ]
  go_wp2_with fail
  go_ret
  exact ⟨rfl, rfl⟩

set_option maxHeartbeats 400000 in
theorem twice_none (ao : Option Addr) (c : Nat) (s : ByteArray) (w : World) : Calls Tryz.prog 37 #[.slice ao 0 c, .string s, .func (.func 38) #[] #[]] w fun e w' => e = .returned (.bool false) ∧ Below w.heap.size w w' := by
  have H := hid (fun fv w => indexSh_none ao c fv w)
  go_enter Tryz.func37, Tryz.ntmps37
  go_wp2_with (first | (go_at_call 130; refine (H.out _ _).mono ?_; rintro e w1 ⟨rfl, rfl⟩) | go_in)
  go_ret
  exact ⟨rfl, ((Below.refl _ w).alloc (Nat.le_refl _) _).alloc (by simp) _⟩

end Go.Proofs.YtpcjfgihglfdgaaGreatDoor

namespace Go.Proofs.YtpcjfgihglfdgaaGreatDoor
open Go.RowKit Go.Lib Go.Shelf

def upp (x : Int) : Int := if 97 ≤ x ∧ x ≤ 122 then x - 32 else x
set_option maxHeartbeats 400000 in
theorem nfoldOne_any (x : Int) (h0 : 0 ≤ x) (h1 : x ≤ 1114111) (w : World) : Calls Tryz.prog 280 #[.int .i32 x] w fun e w' => e = .returned (.int .i32 (low x)) ∧ w' = w := by
  by_cases ha : 65 ≤ x
  · by_cases hb : x ≤ 90
    · have e : x + 32 = low x := by unfold low; rw [if_pos ⟨ha, hb⟩]
      have E := hid e
      clear e
      go_enter Tryz.func280, Tryz.ntmps280
      go_wp2
      go_ret
      exact ⟨ret_int (by rw [← E.out]; omega), rfl⟩
    · have e : x = low x := by unfold low; rw [if_neg (fun h => hb h.2)]
      have E := hid e
      clear e
      go_enter Tryz.func280, Tryz.ntmps280
      go_wp2
      go_ret
      exact ⟨ret_int E.out, rfl⟩
  · have e : x = low x := by unfold low; rw [if_neg (fun h => ha h.1)]
    have E := hid e
    clear e
    go_enter Tryz.func280, Tryz.ntmps280
    go_wp2
    go_ret
    exact ⟨ret_int E.out, rfl⟩
set_option maxHeartbeats 400000 in
theorem colOne_any (x : Int) (h0 : 0 ≤ x) (h1 : x ≤ 1114111) (w : World) : Calls Tryz.prog 241 #[.int .i32 x] w fun e w' => e = .returned (.int .i32 (upp x)) ∧ w' = w := by
  by_cases ha : 97 ≤ x
  · by_cases hb : x ≤ 122
    · have e : x - 32 = upp x := by unfold upp; rw [if_pos ⟨ha, hb⟩]
      have E := hid e
      clear e
      go_enter Tryz.func241, Tryz.ntmps241
      go_wp2
      go_ret
      exact ⟨ret_int (by rw [← E.out]; omega), rfl⟩
    · have e : x = upp x := by unfold upp; rw [if_neg (fun h => hb h.2)]
      have E := hid e
      clear e
      go_enter Tryz.func241, Tryz.ntmps241
      go_wp2
      go_ret
      exact ⟨ret_int E.out, rfl⟩
  · have e : x = upp x := by unfold upp; rw [if_neg (fun h => ha h.1)]
    have E := hid e
    clear e
    go_enter Tryz.func241, Tryz.ntmps241
    go_wp2
    go_ret
    exact ⟨ret_int E.out, rfl⟩
set_option maxHeartbeats 400000 in
theorem changeOne_any (x : Int) (h0 : 0 ≤ x) (h1 : x ≤ 1114111) (w : World) (bf bt : Nat) (c1 : w.cell? ⟨bf, 0, none⟩ = some (.int .i32 97)) (c2 : w.cell? ⟨bt, 0, none⟩ = some (.int .i32 65)) : Calls Tryz.prog 347 #[.int .i32 x, .pointer (some ⟨bf, 0, none⟩), .pointer (some ⟨bt, 0, none⟩)] w fun e w' => e = .returned (.int .i32 (upp x)) ∧ w' = w := by
  by_cases ha : 97 ≤ x
  · by_cases hb : x < 123
    · have e : x - 32 = upp x := by unfold upp; rw [if_pos ⟨ha, by omega⟩]
      have E := hid e
      clear e
      go_enter Tryz.func347, Tryz.ntmps347
      go_wp2
      go_ret
      exact ⟨ret_int (by rw [← E.out]; omega), rfl⟩
    · have e : x = upp x := by unfold upp; rw [if_neg (fun h => hb (by omega))]
      have E := hid e
      clear e
      go_enter Tryz.func347, Tryz.ntmps347
      go_wp2
      go_ret
      exact ⟨ret_int E.out, rfl⟩
  · have e : x = upp x := by unfold upp; rw [if_neg (fun h => ha h.1)]
    have E := hid e
    clear e
    go_enter Tryz.func347, Tryz.ntmps347
    go_wp2
    go_ret
    exact ⟨ret_int E.out, rfl⟩

theorem map_nfold (s : ByteArray) (hs : s.size < 35184372088832) (w : World) (hT : Tabs w) : Calls Tryz.prog 131 #[.func (.func 280) #[] #[], .string s] w fun e w' => e = .returned (.string ⟨(Lib.mapD low s.data.toList).toArray⟩) ∧ Below w.heap.size w w' := by
  refine Any.strings_Map_runes laysMap mapExtra 280 #[] (fun args w => enters_of Tryz.func280 (by kernel_rfl) rfl args w) low s w hs ?_ ?_ hT
  · intro W x hx _
    exact (nfoldOne_any (x : Int) (by omega) (by omega) W).mono fun e w' ⟨he, hw⟩ => ⟨he, 0, hw⟩
  · intro x hx
    unfold low
    split <;> omega
theorem map_col (s : ByteArray) (hs : s.size < 35184372088832) (w : World) (hT : Tabs w) : Calls Tryz.prog 131 #[.func (.func 241) #[] #[], .string s] w fun e w' => e = .returned (.string ⟨(Lib.mapD upp s.data.toList).toArray⟩) ∧ Below w.heap.size w w' := by
  refine Any.strings_Map_runes laysMap mapExtra 241 #[] (fun args w => enters_of Tryz.func241 (by kernel_rfl) rfl args w) upp s w hs ?_ ?_ hT
  · intro W x hx _
    exact (colOne_any (x : Int) (by omega) (by omega) W).mono fun e w' ⟨he, hw⟩ => ⟨he, 0, hw⟩
  · intro x hx
    unfold upp
    split <;> omega
theorem map_change (s : ByteArray) (hs : s.size < 35184372088832) (w : World) (hT : Tabs w) (bf bt : Nat) (c1 : w.cell? ⟨bf, 0, none⟩ = some (.int .i32 97)) (c2 : w.cell? ⟨bt, 0, none⟩ = some (.int .i32 65)) : Calls Tryz.prog 131 #[.func (.func 347) #[] #[.pointer (some ⟨bf, 0, none⟩), .pointer (some ⟨bt, 0, none⟩)], .string s] w fun e w' => e = .returned (.string ⟨(Lib.mapD upp s.data.toList).toArray⟩) ∧ Below w.heap.size w w' := by
  refine Any.strings_Map_runes laysMap mapExtra 347 #[.pointer (some ⟨bf, 0, none⟩), .pointer (some ⟨bt, 0, none⟩)] (fun args w => enters_of Tryz.func347 (by kernel_rfl) rfl args w) upp s w hs ?_ ?_ hT
  · intro W x hx hb
    exact (changeOne_any (x : Int) (by omega) (by omega) W bf bt ((hb.cell (World.block_lt_of_cell? _ _ c1)).trans c1) ((hb.cell (World.block_lt_of_cell? _ _ c2)).trans c2)).mono fun e w' ⟨he, hw⟩ => ⟨he, 0, hw⟩
  · intro x hx
    unfold upp
    split <;> omega

abbrev textSUM : ByteArray := bs [83, 85, 77]
theorem upp_SUM : (⟨(Lib.mapD upp textSUM.data.toList).toArray⟩ : ByteArray) = textSUM := by kernel_rfl
theorem low_SUM : (⟨(Lib.mapD low textSUM.data.toList).toArray⟩ : ByteArray) = bs [115, 117, 109] := by kernel_rfl
theorem upp_A : (⟨(Lib.mapD upp (bs [65]).data.toList).toArray⟩ : ByteArray) = bs [65] := by kernel_rfl
set_option maxHeartbeats 400000 in
theorem great_SUM (w : World) (hT : Tabs w) : Calls Tryz.prog 273 #[.string textSUM] w fun e w' => e = .returned (.string textSUM) ∧ Below w.heap.size w w' := by
  have b0 : Below w.heap.size w ((w.alloc (.cells #[.int .i32 97] 21)).alloc (.cells #[.int .i32 65] 21)) := ((Below.refl _ w).alloc (Nat.le_refl _) _).alloc (by simp) _
  have H := hid (map_change textSUM (by decide) _ (hT.below b0) w.heap.size (w.heap.size + 1) (cell_of (heap_alloc_keep (heap_alloc_new w _) _) rfl) (cell_of (heap_alloc2_new w _ _) rfl))
  have B0 := hid b0
  clear b0 hT
  go_enter Tryz.func273, Tryz.ntmps273
  go_wp2_with (first | (go_at_call 131; refine H.out.mono ?_; rintro e w1 ⟨rfl, b1⟩) | go_in)
  rw [upp_SUM]
  go_ret
  exact ⟨rfl, B0.out.trans (b1.mono (by simp; omega))⟩
set_option maxHeartbeats 400000 in
theorem nfold_SUM (w : World) (hT : Tabs w) : Calls Tryz.prog 217 #[.string textSUM] w fun e w' => e = .returned (.string (bs [115, 117, 109])) ∧ Below w.heap.size w w' := by
  have H := hid (map_nfold textSUM (by decide) w hT)
  clear hT
  go_enter Tryz.func217, Tryz.ntmps217
  go_wp2_with fail
  refine H.out.mono ?_
  rintro e w1 ⟨rfl, b1⟩
  rw [low_SUM]
  go_wp2_with fail
  go_ret
  exact ⟨rfl, b1⟩
end Go.Proofs.YtpcjfgihglfdgaaGreatDoor

namespace Go.Proofs.YtpcjfgihglfdgaaGreatDoor
open Go.RowKit Go.Lib

/-- a number's digits; a cell of the first column, as a formula has it -/
def digs (n : Nat) : List UInt8 := if n < 10 then [UInt8.ofNat (48 + n)] else [UInt8.ofNat (48 + n / 10), UInt8.ofNat (48 + n % 10)]
def refB (n : Nat) : List UInt8 := 65 :: digs n
theorem digs_facts : ((List.range 100).all fun n => (digs n).all digitB && !(digs n).isEmpty && decide ((digs n).length ≤ 2) && ((digs n).all fun b => b != 33) && ((digs n).foldl (fun a b => a * 10 + (b.toNat - 48)) 0 == n) && ((digs n).head? != some 45) && ((digs n).head? != some 43) && ((digs n).head? != some 36)) = true := by kernel_rfl
theorem digs_fact {n : Nat} (h : n < 100) : (∀ b ∈ digs n, digitB b = true) ∧ digs n ≠ [] ∧ (digs n).length ≤ 2 ∧ (∀ b ∈ digs n, b ≠ 33) ∧ (digs n).foldl (fun a b => a * 10 + (b.toNat - 48)) 0 = n ∧ (digs n).head? ≠ some 45 ∧ (digs n).head? ≠ some 43 ∧ (digs n).head? ≠ some 36 := by
  have := List.all_eq_true.1 digs_facts n (List.mem_range.2 h)
  simp only [Bool.and_eq_true, List.all_eq_true, bne_iff_ne, beq_iff_eq, decide_eq_true_eq, Bool.not_eq_true', List.isEmpty_eq_false_iff] at this
  exact ⟨this.1.1.1.1.1.1.1, this.1.1.1.1.1.1.2, this.1.1.1.1.1.2, this.1.1.1.1.2, this.1.1.1.2, this.1.1.2, this.1.2, this.2⟩
theorem digit_range {b : UInt8} (h : digitB b = true) : 48 ≤ b.toNat ∧ b.toNat ≤ 57 := of_decide_eq_true h

/-- the value of some digits behind a value -/
def numOf (a : Nat) (l : List UInt8) : Nat := l.foldl (fun a b => a * 10 + (b.toNat - 48)) a
theorem numOf_le (a : Nat) (l : List UInt8) (h : ∀ b ∈ l, digitB b = true) : numOf a l < (a + 1) * 10 ^ l.length := by
  induction l generalizing a with
  | nil => simp [numOf]
  | cons b l ih =>
    have hb := digit_range (h b (by simp))
    have := ih (a * 10 + (b.toNat - 48)) (fun c hc => h c (by simp [hc]))
    unfold numOf at *
    rw [List.foldl_cons, List.length_cons, Nat.pow_succ]
    refine Nat.lt_of_lt_of_le this ?_
    rw [Nat.mul_comm (10 ^ l.length) 10, ← Nat.mul_assoc]
    exact Nat.mul_le_mul_right _ (by omega)
theorem cases33 {n : Nat} (h1 : 1 ≤ n) (h2 : n ≤ 33) : n = 1 ∨ n = 2 ∨ n = 3 ∨ n = 4 ∨ n = 5 ∨ n = 6 ∨ n = 7 ∨ n = 8 ∨ n = 9 ∨ n = 10 ∨ n = 11 ∨ n = 12 ∨ n = 13 ∨ n = 14 ∨ n = 15 ∨ n = 16 ∨ n = 17 ∨ n = 18 ∨ n = 19 ∨ n = 20 ∨ n = 21 ∨ n = 22 ∨ n = 23 ∨ n = 24 ∨ n = 25 ∨ n = 26 ∨ n = 27 ∨ n = 28 ∨ n = 29 ∨ n = 30 ∨ n = 31 ∨ n = 32 ∨ n = 33 := by omega
set_option maxRecDepth 20000 in
set_option maxHeartbeats 4000000 in
theorem itoa_any {n : Nat} (h1 : 1 ≤ n) (h2 : n ≤ 33) (w : World) : Calls Tryz.prog 192 #[.int .i64 n] w fun e w' => e = .returned (.string (bs (digs n))) ∧ w = w' := by
  rcases cases33 h1 h2 with rfl | rfl | rfl | rfl | rfl | rfl | rfl | rfl | rfl | rfl | rfl | rfl | rfl | rfl | rfl | rfl | rfl | rfl | rfl | rfl | rfl | rfl | rfl | rfl | rfl | rfl | rfl | rfl | rfl | rfl | rfl | rfl | rfl
  all_goals
    go_enter Tryz.func192, Tryz.ntmps192
    go_wp2
    go_ret
    exact ⟨rfl, rfl⟩
theorem index_bs0 {l : List UInt8} {b : UInt8} (h : l.head? = some b) (x : World) : (Instr.index 9 (.string (bs l)) (.int .i64 0)).run Tryz.prog x = .ok (.int .u8 (b.toNat : Int)) x :=
  index_bs (j := 0) (by rw [← List.head?_eq_getElem?]; exact h) x
theorem below_bytes (w : World) (e : TypeId) (s : ByteArray) : Below w.heap.size w (bytesWorld w e s) :=
  ⟨by simp [bytesWorld, World.freeze, World.alloc, World.drew, -World.alloc_eq, -World.drew_eq], by simp [bytesWorld, World.freeze, World.alloc, World.drew, -World.alloc_eq, -World.drew_eq], by simp [bytesWorld, World.freeze, World.alloc, World.drew, -World.alloc_eq, -World.drew_eq], by rw [bytesWorld_size]; omega, fun k hk => bytesWorld_at_old w e s k hk⟩
theorem ne_beq {a b : Int} (h : a ≠ b) : (a == b) = false := by rw [Bool.eq_false_iff]; exact fun he => h (eq_of_beq he)
theorem numOf_take {l : List UInt8} {k : Nat} {b : UInt8} (h : l[k]? = some b) : numOf 0 (l.take (k + 1)) = numOf 0 (l.take k) * 10 + (b.toNat - 48) := by
  unfold numOf
  rw [List.take_add_one, h, Option.toList_some, List.foldl_append]
  rfl
set_option maxRecDepth 20000 in
set_option maxHeartbeats 1000000 in
/-- some digits' number -/
theorem atoi_any (l : List UInt8) (hd : ∀ b ∈ l, digitB b = true) (hne : l ≠ []) (hl : l.length ≤ 4) (w : World) : Calls Tryz.prog 191 #[.string (bs l)] w fun e w' => e = .returned (.tuple #[.int .i64 (numOf 0 l), .nilIface]) ∧ Below w.heap.size w w' := by
  obtain ⟨b0, hb0⟩ : ∃ b, l.head? = some b := ⟨_, List.head?_eq_some_head hne⟩
  have hr0 := digit_range (hd b0 (List.mem_of_head? hb0))
  have hix0 := index_bs0 hb0
  have n45 : ((b0.toNat : Int) == 45) = false := ne_beq (by omega)
  have n43 : ((b0.toNat : Int) == 43) = false := ne_beq (by omega)
  have hpos : 0 < l.length := List.length_pos_iff.2 hne
  obtain ⟨n, hn⟩ : ∃ n, n = l.length := ⟨_, rfl⟩
  have hsz : (bs l).size = n := by rw [bs_size, hn]
  have g1 : 0 < n := by omega
  have g2 : n < 19 := by omega
  have g3 : n < 10 := by omega
  have hcv : ∀ x, (convert 9 50 (.string (bs l))).run Tryz.prog x = .ok (.slice (some ⟨x.heap.size, 0, none⟩) n (grownCap x (bs l).size 0 5)) (bytesWorld x 5 (bs l)) := fun x => by
    rw [Go.Lib.run_convert_string_bytes x 9 50 5 (bs l) Tryz.underlying9 Tryz.underlying50 Tryz.underlying5, hsz]
  have hce := hid (fun (j : Nat) (b : UInt8) (h : l[j]? = some b) => show (bytesWorld w 5 (bs l)).cell? ⟨w.heap.size, j, none⟩ = some (.int .u8 (b.toNat : Int)) from by
    have hj := (List.getElem?_eq_some_iff.1 h).1
    rw [bytesWorld_cell w 5 (bs l) j (by rw [bs_size]; exact hj), bs_data, List.getD_eq_getElem?_getD, h]
    rfl)
  have HD := hid hd
  have HL := hid (show _ ∧ _ from ⟨hl, hn⟩)
  clear hd hb0 hne hr0 hl hpos hn
  go_enter Tryz.func191, Tryz.ntmps191
  go_wp2
  have B0 := hid (below_bytes w 5 (bs l))
  obtain ⟨g, hg⟩ : ∃ g, g = w.heap.size := ⟨_, rfl⟩
  rw [← hg] at hce ⊢
  have HB := hid hg
  generalize bytesWorld w 5 (bs l) = w1 at hce B0 ⊢
  clear hg hcv
  go_loop [49, 6] (fun v x => ∃ k : Nat, k ≤ n ∧ v = .int .i64 k ∧ x = .int .i64 (numOf 0 (l.take k))) (fun v _ => n - (intOf v).toNat)
  case atStart => exact ⟨0, Nat.zero_le _, rfl, rfl⟩
  case round =>
    obtain ⟨k, hk, rfl, rfl⟩ := hrel
    rcases Nat.lt_or_ge k n with hlt | hge
    · obtain ⟨b, hb⟩ : ∃ b, l[k]? = some b := ⟨_, List.getElem?_eq_getElem (by rw [← HL.out.2]; exact hlt)⟩
      have c1 := hce.out k b hb
      have hr := digit_range (HD.out b (List.mem_of_getElem? hb))
      have hs : IntKind.u8.wrap ((b.toNat : Int) - 48) = ((b.toNat - 48 : Nat) : Int) := by simp only [IntKind.wrap_u8]; omega
      have h9 : (((b.toNat - 48 : Nat) : Int) > 9) = False := by rw [eq_iff_iff, iff_false]; omega
      have h9' : ((9 : Int) < ((b.toNat - 48 : Nat) : Int)) = False := by rw [eq_iff_iff, iff_false]; omega
      have hle := numOf_le 0 (l.take k) (fun c hc => HD.out c (List.mem_of_mem_take hc))
      have hp : 10 ^ (l.take k).length ≤ 10 ^ 4 := Nat.pow_le_pow_right (by omega) (by rw [List.length_take]; have := HL.out.1; omega)
      have hN : numOf 0 (l.take k) ≤ 10000 := by omega
      have hT := hid (numOf_take hb)
      obtain ⟨N, hNe⟩ : ∃ N, N = numOf 0 (l.take k) := ⟨_, rfl⟩
      rw [← hNe] at hN hT ⊢
      obtain ⟨m, hm⟩ : ∃ m, m = b.toNat - 48 := ⟨_, rfl⟩
      rw [← hm] at hs h9 h9' hT
      have hm9 : m ≤ 9 := by omega
      clear hle hp hb hr
      go_wp2_with fail
      go_round
      case rel =>
        refine ⟨k + 1, by omega, by go_num, ?_⟩
        rw [hT.out]
        go_num
      case measure => simp [intOf]; omega
    · have hkl : l.take k = l := List.take_of_length_le (by rw [← HL.out.2]; exact hge)
      rw [hkl]
      clear hkl
      go_wp2_with fail
      go_ret2
      exact ⟨rfl, B0.out⟩
end Go.Proofs.YtpcjfgihglfdgaaGreatDoor

namespace Go.Proofs.YtpcjfgihglfdgaaGreatDoor
open Go.RowKit Go.Lib

def rletterB (b : UInt8) : Bool := decide ((65 ≤ b.toNat ∧ b.toNat ≤ 90) ∨ (97 ≤ b.toNat ∧ b.toNat ≤ 122))
set_option maxHeartbeats 800000 in
theorem refLetter_any (c : Nat) (w : World) : Calls Tryz.prog 189 #[.int .i32 c] w fun e w' => e = .returned (.bool (decide ((65 ≤ c ∧ c ≤ 90) ∨ (97 ≤ c ∧ c ≤ 122)))) ∧ w = w' := by
  go_enter Tryz.func189, Tryz.ntmps189
  by_cases h1 : 65 ≤ c
  · have d1 : (65 ≤ (c : Int)) = True := by rw [eq_iff_iff, iff_true]; omega
    by_cases h2 : c ≤ 90
    · have d2 : ((c : Int) ≤ 90) = True := by rw [eq_iff_iff, iff_true]; omega
      have e : decide ((65 ≤ c ∧ c ≤ 90) ∨ (97 ≤ c ∧ c ≤ 122)) = true := decide_eq_true (.inl ⟨h1, h2⟩)
      go_wp2_with fail
      go_ret
      exact ⟨by first | rfl | (rw [e]; rfl), rfl⟩
    · have d2 : ((c : Int) ≤ 90) = False := by rw [eq_iff_iff, iff_false]; omega
      by_cases h3 : 97 ≤ c
      · have d3 : (97 ≤ (c : Int)) = True := by rw [eq_iff_iff, iff_true]; omega
        by_cases h4 : c ≤ 122
        · have d4 : ((c : Int) ≤ 122) = True := by rw [eq_iff_iff, iff_true]; omega
          have e : decide ((65 ≤ c ∧ c ≤ 90) ∨ (97 ≤ c ∧ c ≤ 122)) = true := decide_eq_true (.inr ⟨h3, h4⟩)
          go_wp2_with fail
          go_ret
          exact ⟨by first | rfl | (rw [e]; rfl), rfl⟩
        · have d4 : ((c : Int) ≤ 122) = False := by rw [eq_iff_iff, iff_false]; omega
          have e : decide ((65 ≤ c ∧ c ≤ 90) ∨ (97 ≤ c ∧ c ≤ 122)) = false := decide_eq_false (by omega)
          go_wp2_with fail
          go_ret
          exact ⟨by first | rfl | (rw [e]; rfl), rfl⟩
      · have d3 : (97 ≤ (c : Int)) = False := by rw [eq_iff_iff, iff_false]; omega
        have e : decide ((65 ≤ c ∧ c ≤ 90) ∨ (97 ≤ c ∧ c ≤ 122)) = false := decide_eq_false (by omega)
        go_wp2_with fail
        go_ret
        exact ⟨by first | rfl | (rw [e]; rfl), rfl⟩
  · have d1 : (65 ≤ (c : Int)) = False := by rw [eq_iff_iff, iff_false]; omega
    have d3 : (97 ≤ (c : Int)) = False := by rw [eq_iff_iff, iff_false]; omega
    have e : decide ((65 ≤ c ∧ c ≤ 90) ∨ (97 ≤ c ∧ c ≤ 122)) = false := decide_eq_false (by omega)
    go_wp2_with fail
    go_ret
    exact ⟨by first | rfl | (rw [e]; rfl), rfl⟩
set_option maxHeartbeats 800000 in
theorem refLetter_b (b : UInt8) (w : World) : Calls Tryz.prog 188 #[.int .u8 b.toNat] w fun e w' => e = .returned (.bool (rletterB b)) ∧ w = w' := by
  have hb : b.toNat < 256 := b.toNat_lt
  have H := hid (fun w => refLetter_any b.toNat w)
  go_enter Tryz.func188, Tryz.ntmps188
  go_wp2_with fail
  refine (H.out _).mono ?_
  rintro e w1 ⟨rfl, rfl⟩
  generalize hbl : decide ((65 ≤ b.toNat ∧ b.toNat ≤ 90) ∨ (97 ≤ b.toNat ∧ b.toNat ≤ 122)) = bl
  have hb2 : rletterB b = bl := hbl
  clear hbl
  go_wp2_with fail
  go_ret
  exact ⟨by rw [hb2]; rfl, rfl⟩
set_option maxHeartbeats 800000 in
theorem refDigit_b (b : UInt8) (w : World) : Calls Tryz.prog 190 #[.int .u8 b.toNat] w fun e w' => e = .returned (.bool (digitB b)) ∧ w = w' := by
  obtain ⟨c, hc⟩ : ∃ c, c = b.toNat := ⟨_, rfl⟩
  have hw : digitB b = decide (48 ≤ c ∧ c ≤ 57) := by rw [hc]; rfl
  rw [hw, ← hc]
  clear hw hc
  go_enter Tryz.func190, Tryz.ntmps190
  by_cases h1 : 48 ≤ c
  · have d1 : (48 ≤ (c : Int)) = True := by rw [eq_iff_iff, iff_true]; omega
    by_cases h2 : c ≤ 57
    · have d2 : ((c : Int) ≤ 57) = True := by rw [eq_iff_iff, iff_true]; omega
      have e : decide (48 ≤ c ∧ c ≤ 57) = true := decide_eq_true ⟨h1, h2⟩
      go_wp2_with fail
      go_ret
      exact ⟨by first | rfl | (rw [e]; rfl), rfl⟩
    · have d2 : ((c : Int) ≤ 57) = False := by rw [eq_iff_iff, iff_false]; omega
      have e : decide (48 ≤ c ∧ c ≤ 57) = false := decide_eq_false (by omega)
      go_wp2_with fail
      go_ret
      exact ⟨by first | rfl | (rw [e]; rfl), rfl⟩
  · have d1 : (48 ≤ (c : Int)) = False := by rw [eq_iff_iff, iff_false]; omega
    have e : decide (48 ≤ c ∧ c ≤ 57) = false := decide_eq_false (by omega)
    go_wp2_with fail
    go_ret
    exact ⟨by first | rfl | (rw [e]; rfl), rfl⟩
theorem conv_one (w : World) (g cap : Nat) (b : UInt8) (h : w.cell? ⟨g, 0, none⟩ = some (.int .u8 b.toNat)) : (convert 50 9 (.slice (some ⟨g, 0, none⟩) 1 cap)).run Tryz.prog w = .ok (.string (bs [b])) w :=
  run_convert_bytes_back (P := Tryz.prog) w 50 9 5 ⟨g, 0, none⟩ cap [b] Tryz.underlying50 Tryz.underlying5 Tryz.underlying9 (fun j hj => by
    have : j = 0 := by simpa using hj
    subst this
    exact h)
set_option maxRecDepth 20000 in
set_option maxHeartbeats 400000 in
theorem column_zero (w : World) : Calls Tryz.prog 242 #[.int .i64 0] w fun e w' => e = .returned (.tuple #[.string (bs [65]), .int .i64 0]) ∧ Below w.heap.size w w' := by
  have hcv := conv_one (w.alloc (.cells #[.int .u8 65] 5)) w.heap.size 1 65 (cell_of (heap_alloc_new w _) rfl)
  go_enter Tryz.func242, Tryz.ntmps242
  go_wp2
  go_ret2
  exact ⟨rfl, (Below.refl _ w).alloc (Nat.le_refl _) _⟩
set_option maxRecDepth 20000 in
set_option maxHeartbeats 400000 in
theorem readColumn_A (w : World) (hT : Tabs w) : Calls Tryz.prog 187 #[.string (bs [65])] w fun e w' => e = .returned (.tuple #[.int .i64 0, .int .i64 0]) ∧ Below w.heap.size w w' := by
  have H := hid (map_col (bs [65]) (by decide) w hT)
  have hsz : (bs [65]).size = 1 := rfl
  clear hT
  go_enter Tryz.func187, Tryz.ntmps187
  go_wp2_with fail
  refine H.out.mono ?_
  rintro e w1 ⟨rfl, b1⟩
  rw [upp_A]
  go_wp2_with fail
  refine wp_loop_rounds 1 ?_
  rw [rounds_succ]
  go_wp2_with fail
  refine (column_zero _).mono ?_
  rintro e w2 ⟨rfl, b2⟩
  go_wp2_with fail
  go_ret2
  exact ⟨rfl, b1.trans (b2.mono b1.size)⟩
/-- the reference to a row of the first column -/
abbrev refV (r : Nat) : List Value := [.string ⟨#[]⟩, .int .i64 r, .int .i64 0, .bool false, .bool false, .bool false]
set_option maxRecDepth 20000 in
set_option maxHeartbeats 400000 in
theorem refRight_any (r : Nat) (hr : r < 200) (w : World) : Calls Tryz.prog 36 #[.agg (refV r).toArray] w fun e w' => e = .returned (.bool true) ∧ Below w.heap.size w w' := by
  go_enter Tryz.func36, Tryz.ntmps36
  go_wp2_with fail
  go_ret
  exact ⟨rfl, (Below.refl _ w).alloc (Nat.le_refl _) _⟩
set_option maxHeartbeats 400000 in
theorem sheet_any (l : List UInt8) (h : ∀ b ∈ l, b ≠ 33) (hl : l.length < 2 ^ 62) (w : World) : Calls Tryz.prog 184 #[.string (bs l)] w fun e w' => e = .returned (.tuple #[.string ⟨#[]⟩, .string (bs l), .bool true]) ∧ w = w' := by
  have H := hid (lastByte_none l 33 h hl w)
  clear h hl
  go_enter Tryz.func184, Tryz.ntmps184
  go_wp2_with fail
  refine H.out.mono ?_
  rintro e w1 ⟨rfl, rfl⟩
  go_wp2_with fail
  go_ret3
  exact ⟨rfl, rfl⟩
/-- what is left of a text, in a cell -/
def RestAt (g : Nat) (l : List UInt8) (w : World) : Prop := w.heap[g]? = some (.cells #[.string (bs l)] 9 (0, 0))
set_option maxHeartbeats 400000 in
theorem dollar_no (g : Nat) (l : List UInt8) (w : World) (h : RestAt g l w) (hl : l.head? ≠ some 36) : Calls Tryz.prog 186 #[.pointer (some ⟨g, 0, none⟩)] w fun e w' => e = .returned (.bool false) ∧ RestAt g l w' ∧ Chg [g] w w' := by
  have c0 := cell_of (i := 0) h rfl
  have f0 := free_of (i := 0) h
  have hp : ([36] : List UInt8).isPrefixOf l = false := by
    cases l with
    | nil => rfl
    | cons b l =>
      simp only [List.head?_cons, ne_eq, Option.some.injEq] at hl
      simp [List.isPrefixOf, Ne.symm hl]
  have H := hid (cutPrefix_no l [36] hp w)
  have HR := hid h
  clear h hl hp
  go_enter Tryz.func186, Tryz.ntmps186
  go_wp2_with fail
  refine H.out.mono ?_
  rintro e w1 ⟨rfl, rfl⟩
  go_wp2_with fail
  go_ret
  exact ⟨rfl, heap_setCell_at (i := 0) HR.out (.string (bs l)), (Chg.refl _ w).setCell (.inl (by simp)) _⟩
set_option maxRecDepth 20000 in
set_option maxHeartbeats 1000000 in
/-- what begins the rest is taken -/
theorem take_any (id : FuncId) (hi0 : id = 188 ∨ id = 190) (f : UInt8 → Bool) (hcb : Hid (∀ (b : UInt8) (w : World), Calls Tryz.prog id #[.int .u8 b.toNat] w fun e w' => e = .returned (.bool (f b)) ∧ w = w'))
    (g : Nat) (l : List UInt8) (hl : l.length < 2 ^ 62) (w : World) (h : RestAt g l w) : Calls Tryz.prog 185 #[.func (.func id) #[] #[], .pointer (some ⟨g, 0, none⟩)] w fun e w' => e = .returned (.string (bs (l.takeWhile f))) ∧ RestAt g (l.drop (span f l)) w' ∧ Chg [g] w w' := by
  have c0 := cell_of (i := 0) h rfl
  have f0 := free_of (i := 0) h
  have HR := hid h
  obtain ⟨n, hn⟩ : ∃ n, n = l.length := ⟨_, rfl⟩
  have hsz : (bs l).size = n := by rw [bs_size, hn]
  have HN := hid hn
  have hle := span_le f l
  rw [← hn] at hle hl
  clear h hn
  go_enter Tryz.func185, Tryz.ntmps185
  go_wp2_with fail
  go_loop [4] (fun v => ∃ k : Nat, k ≤ span f l ∧ v = .int .i64 k) (fun v => n - (intOf v).toNat)
  case atStart => exact ⟨0, Nat.zero_le _, rfl⟩
  case round =>
    obtain ⟨i, hi, rfl⟩ := hrel
    have key : ∀ b, l[i]? = some b → (f b = true ↔ i < span f l) := fun b hb => by
      constructor
      · intro hf
        rcases Nat.lt_or_ge i (span f l) with h | h
        · exact h
        · have he : i = span f l := Nat.le_antisymm hi h
          have := span_end (f := f) (l := l) (b := b) (by rw [← he]; exact hb)
          rw [hf] at this
          cases this
      · intro h
        obtain ⟨b', hb', hfb⟩ := span_at h
        rw [hb] at hb'
        injection hb' with hb'
        rw [hb']
        exact hfb
    have KEY := hid key
    have HI := hid hi
    clear key hi
    have ht : i = span f l → (bs l).extract 0 i = bs (l.takeWhile f) := fun he => by
      rw [bs_extract, he]
      simp only [List.drop_zero, Nat.sub_zero]
      rw [span, ← List.prefix_iff_eq_take.1 (List.takeWhile_prefix f)]
    have hr : (bs l).extract i n = bs (l.drop i) := by
      rw [bs_extract, List.take_of_length_le]
      rw [List.length_drop, ← HN.out]
      exact Nat.le_refl _
    have HT := hid ht
    have HX := hid hr
    clear ht hr
    rcases Nat.lt_or_ge i n with hlt | hge
    · obtain ⟨b, hb⟩ : ∃ b, l[i]? = some b := ⟨_, List.getElem?_eq_getElem (by rw [← HN.out]; exact hlt)⟩
      have hix := index_bs hb
      have K := hid (KEY.out b hb)
      clear hb KEY
      rcases hi0 with rfl | rfl
      all_goals
        go_wp2_with fail
        refine (hcb.out _ _).mono ?_
        rintro e w1 ⟨rfl, rfl⟩
        cases hf : f b with
        | true =>
          go_wp2_with fail
          go_round
          case rel => exact ⟨i + 1, K.out.1 hf, by go_num⟩
          case measure => simp [intOf]; omega
        | false =>
          have he : i = span f l := by
            rcases Nat.lt_or_ge i (span f l) with h | h
            · have := K.out.2 h
              rw [hf] at this
              cases this
            · exact Nat.le_antisymm HI.out h
          have HE := hid he
          clear he
          have hin : i ≤ n := Nat.le_of_lt hlt
          go_wp2_with fail
          go_ret
          refine ⟨?_, ?_, (Chg.refl _ w).setCell (.inl (by simp)) _⟩
          · rw [← HT.out HE.out]
            rfl
          · have := heap_setCell_at (i := 0) HR.out (.string ((bs l).extract i n))
            unfold RestAt
            rw [← HE.out, ← HX.out]
            exact this
    · have he : i = span f l := Nat.le_antisymm HI.out (Nat.le_trans hle hge)
      have HE := hid he
      clear he
      have hin : i ≤ n := Nat.le_trans HI.out hle
      go_wp2_with fail
      go_ret
      refine ⟨?_, ?_, (Chg.refl _ w).setCell (.inl (by simp)) _⟩
      · rw [← HT.out HE.out]
        rfl
      · have := heap_setCell_at (i := 0) HR.out (.string ((bs l).extract i n))
        unfold RestAt
        rw [← HE.out, ← HX.out]
        exact this
end Go.Proofs.YtpcjfgihglfdgaaGreatDoor
