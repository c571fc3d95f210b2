/- Texts joined: Ref01, Same, Fold1, RefWords, ParseSpec, ParseEq, SumSpec. -/
import Derived.Test.YtbjgfjmknnbahaaGreatDoorR2
import Derived.OwnWalk
import Derived.BigQuiet
import Derived.Lib.Strings
import Derived.Deep.QuietTactic
import Derived.Test.YtbjgfjmknnbahaaGreatDoorProg
import Derived.Test.YtbjgfjmknnbahaaGreatDoorR1
import Derived.WalkKit
import Derived.BigCall
import Derived.Lib.Hide
import Derived.WalkSpells
import Derived.WalkSmall
import Derived.Deep.Light
import Derived.Lib.FieldsP
import Derived.Shelf.GgClosure.StringsTrimFunc
import Derived.Lib.LastIndexByte
/- Contracts: rebusref01.Runes, Places, Count. -/
set_option linter.unusedVariables false
set_option linter.unusedSimpArgs false
namespace Go.Proofs.YtbjgfjmknnbahaaGreatDoor
open Go.RowKit

def eR (r : Nat) : Value := .int .i32 (r : Int)
def eI (r : Nat) : Value := .int .i64 (r : Int)
theorem info_i32 : (Tryz.prog.info? 21).map (fun i => (i.zero, i.size, i.bytes)) = some (some (.int .i32 0), 1, 4) := by kernel_rfl
theorem info_i64 : (Tryz.prog.info? 3).map (fun i => (i.zero, i.size, i.bytes)) = some (some (.int .i64 0), 1, 8) := by kernel_rfl

set_option maxHeartbeats 2000000 in
set_option maxRecDepth 100000 in
theorem RefRunes_any (s : ByteArray) (w : World) (hs : s.size ≤ 4294967296) :
    Calls Tryz.prog 32 #[.string s] w fun e w' => Made w w' 21 1 (runes s).length ((runes s).map eR) e := by
  obtain ⟨i0, hi, hz0, hz1, hz2⟩ := info_parts info_i32
  go_enter Tryz.func32, Tryz.ntmps32
  go_wp2
  go_loopw [3, 4] (fun v p wr => ∃ (pos f : Nat) (acc : List Nat), p = .int .i64 pos ∧ wr.ownsRow w.heap.size 21 1 v acc.length (acc.map eR) ∧ acc ++ (seqFrom s f pos).map (·.2) = runes s ∧ s.size ≤ pos + f ∧ acc.length ≤ pos ∧ Below w.heap.size w wr) (fun _ p _ => s.size - (intOf p).toNat)
  case atStart =>
    exact ⟨0, s.size, [], rfl, World.ownsRow_nil _ _ _ _, by simp [runes, seqs], by omega, by simp, Below.refl _ _⟩
  case round =>
    obtain ⟨pos, f, acc, rfl, hown, hacc, hfu, hal, hbw⟩ := hrel
    have hsz := hbw.size
    by_cases hp : pos < s.size
    · have hwd := width_pos s pos hp
      have hwl := width_le s pos
      have hd1 := decode_le s pos
      obtain ⟨f, rfl⟩ : ∃ f', f = f' + 1 := ⟨f - 1, by omega⟩
      have hacc' : acc ++ [(Utf8.decode s pos).1] ++ (seqFrom s f (pos + (Utf8.decode s pos).2)).map (·.2) = runes s := by rw [← hacc]; simp [seqFrom, hp]
      have Hacc := Lib.hid hacc'
      clear hacc hacc'
      go_wp2_with (first
        | (go_at_call 67; refine (RefNext_at s pos _ (by omega) hp).mono ?_; rintro e w' ⟨rfl, rfl⟩)
        | (at_builtin; refine wpList_append_own _ rfl _ _ 59 rfl w.heap.size 21 i0 (.int .i32 0) 1 4 Tryz.underlying59 hi hz0 hz1 hz2 rfl (by decide) _ _ _ rfl (hown.alloc _) ⟨wr.heap.size, 0, none⟩ 1 1 [eR (Utf8.decode s pos).1] rfl rfl (cell_one_new _ _ _) (by simp [eR, Value.oneCell']) (by simp only [maxLen]; omega) (by omega) (by simp; omega) ?_; intro v' w1 hown1 hg1 hn1))
      go_roundw
      case rel =>
        refine ⟨pos + (Utf8.decode s pos).2, f, acc ++ [(Utf8.decode s pos).1], by go_num, ?_, Hacc.out, by omega, by simp; omega, (hbw.alloc hsz _).grown hg1 (by simp; omega) (fun k e => (hown.lt k e).1)⟩
        rw [List.length_append, List.map_append]
        exact hown1
      case measure => simp [intOf]; omega
    · rw [seqFrom_end s f pos hp] at hacc
      simp only [List.map_nil, List.append_nil] at hacc
      subst hacc
      go_wp2
      go_ret
      exact made_of hown hbw

set_option maxHeartbeats 2000000 in
set_option maxRecDepth 100000 in
theorem RefPlaces_any (s : ByteArray) (w : World) (hs : s.size ≤ 4294967296) :
    Calls Tryz.prog 33 #[.string s] w fun e w' => Made w w' 3 1 (seqs s).length (((seqs s).map (·.1)).map eI) e := by
  obtain ⟨i0, hi, hz0, hz1, hz2⟩ := info_parts info_i64
  go_enter Tryz.func33, Tryz.ntmps33
  go_wp2
  go_loopw [3, 4] (fun v p wr => ∃ (pos f : Nat) (acc : List Nat), p = .int .i64 pos ∧ wr.ownsRow w.heap.size 3 1 v acc.length (acc.map eI) ∧ acc ++ (seqFrom s f pos).map (·.1) = (seqs s).map (·.1) ∧ s.size ≤ pos + f ∧ acc.length ≤ pos ∧ Below w.heap.size w wr) (fun _ p _ => s.size - (intOf p).toNat)
  case atStart =>
    exact ⟨0, s.size, [], rfl, World.ownsRow_nil _ _ _ _, by simp [seqs], by omega, by simp, Below.refl _ _⟩
  case round =>
    obtain ⟨pos, f, acc, rfl, hown, hacc, hfu, hal, hbw⟩ := hrel
    have hsz := hbw.size
    by_cases hp : pos < s.size
    · have hwd := width_pos s pos hp
      have hwl := width_le s pos
      have hd1 := decode_le s pos
      obtain ⟨f, rfl⟩ : ∃ f', f = f' + 1 := ⟨f - 1, by omega⟩
      have hacc' : acc ++ [pos] ++ (seqFrom s f (pos + (Utf8.decode s pos).2)).map (·.1) = (seqs s).map (·.1) := by rw [← hacc]; simp [seqFrom, hp]
      have Hacc := Lib.hid hacc'
      clear hacc hacc'
      go_wp2_with (first
        | (go_at_call 67; refine (RefNext_at s pos _ (by omega) hp).mono ?_; rintro e w' ⟨rfl, rfl⟩)
        | (at_builtin; refine wpList_append_own _ rfl _ _ 24 rfl w.heap.size 3 i0 (.int .i64 0) 1 8 Tryz.underlying24 hi hz0 hz1 hz2 rfl (by decide) _ _ _ rfl (hown.alloc _) ⟨wr.heap.size, 0, none⟩ 1 1 [eI pos] rfl rfl (cell_one_new _ _ _) (by simp [eI, Value.oneCell']) (by simp only [maxLen]; omega) (by omega) (by simp; omega) ?_; intro v' w1 hown1 hg1 hn1))
      go_roundw
      case rel =>
        refine ⟨pos + (Utf8.decode s pos).2, f, acc ++ [pos], by go_num, ?_, Hacc.out, by omega, by simp; omega, (hbw.alloc hsz _).grown hg1 (by simp; omega) (fun k e => (hown.lt k e).1)⟩
        rw [List.length_append, List.map_append]
        exact hown1
      case measure => simp [intOf]; omega
    · rw [seqFrom_end s f pos hp] at hacc
      simp only [List.map_nil, List.append_nil] at hacc
      have hlen : acc.length = (seqs s).length := by rw [hacc]; simp
      rw [hlen, hacc] at hown
      clear hacc hlen
      go_wp2
      go_ret
      exact made_of hown hbw
end Go.Proofs.YtbjgfjmknnbahaaGreatDoor

/- Contracts: rebusref01.SameTexts, SameInts. -/
set_option linter.unusedVariables false
set_option linter.unusedSimpArgs false
namespace Go.Proofs.YtbjgfjmknnbahaaGreatDoor
open Go.RowKit

def eS (s : ByteArray) : Value := .string s
def eZ (z : Int) : Value := .int .i64 z
def sameT (xs ys : List ByteArray) : Bool := decide (xs = ys)
def sameZ (xs ys : List Int) : Bool := decide (xs = ys)
theorem sameT_false {xs ys : List ByteArray} (h : xs ≠ ys) : sameT xs ys = false := by simp [sameT, h]
theorem sameT_true {xs ys : List ByteArray} (h : xs = ys) : sameT xs ys = true := by simp [sameT, h]
theorem sameZ_false {xs ys : List Int} (h : xs ≠ ys) : sameZ xs ys = false := by simp [sameZ, h]
theorem sameZ_true {xs ys : List Int} (h : xs = ys) : sameZ xs ys = true := by simp [sameZ, h]
theorem take_snoc' {α : Type} {l : List α} {k : Nat} {x : α} (h : l[k]? = some x) : l.take (k + 1) = l.take k ++ [x] := by
  rw [List.take_add_one, h]; rfl
theorem toList_inj {a b : ByteArray} (h : a.toList = b.toList) : a = b := by
  rw [Lib.toList_data, Lib.toList_data] at h
  cases a; cases b
  simp at h
  simp [h]

set_option maxHeartbeats 2000000 in
set_option maxRecDepth 100000 in
theorem RefSameTexts_any (A B : Option Addr) (n m c d : Nat) (xs ys : List ByteArray) (w : World) (ha : Rd w 1 A n (xs.map eS)) (hb : Rd w 1 B m (ys.map eS)) (hn : n ≤ 4294967296) (hm : m ≤ 4294967296) :
    Calls Tryz.prog 15 #[.slice A n c, .slice B m d] w fun e w' => e = .returned (.bool (sameT xs ys)) ∧ ∃ q, w' = w.drewN q := by
  have hxl : xs.length = n := by have := ha.1; simpa using this
  have hyl : ys.length = m := by have := hb.1; simpa using this
  by_cases hnm : n = m
  · subst hnm
    have HX := Lib.hid hxl
    have HY := Lib.hid hyl
    clear hxl hyl
    go_enter Tryz.func15, Tryz.ntmps15
    go_wp2
    go_loopw [5] (fun i wr => ∃ (k q : Nat), i = .int .i64 k ∧ k ≤ n ∧ xs.take k = ys.take k ∧ wr = w.drewN q) (fun i _ => n - (intOf i).toNat)
    case atStart => exact ⟨0, 0, rfl, Nat.zero_le _, rfl, rfl⟩
    case round =>
      obtain ⟨k, q, rfl, hk, htk, rfl⟩ := hrel
      by_cases hlt : k < n
      · obtain ⟨b1, o1, x, rfl, hx, hcx⟩ := ha.at1 hlt
        obtain ⟨b2, o2, y, rfl, hy, hcy⟩ := hb.at1 hlt
        unfold eS at hcx hcy
        have H1 := Lib.hid htk
        have H2 := Lib.hid hx
        have H3 := Lib.hid hy
        clear htk hx hy
        by_cases hxy : x = y
        · subst hxy
          go_wp2
          go_quiet (fail)
          go_wp2
          go_roundw
          case rel => exact ⟨k + 1, _, by go_num, by omega, by rw [take_snoc' H2.out, take_snoc' H3.out, H1.out], rfl⟩
          case measure => simp [intOf]; omega
        · have hne : sameT xs ys = false := by
            refine sameT_false fun h => hxy ?_
            have h2 := H2.out
            rw [h, H3.out] at h2
            exact (Option.some.inj h2).symm
          have hxl2 : (x.toList == y.toList) = false := by simpa using fun h => hxy (toList_inj h)
          go_wp2
          go_quiet (fail)
          go_wp2
          go_ret
          rw [hne]
          exact ⟨rfl, _, World.drewN_drewN _ _ _⟩
      · have hkn : k = n := by omega
        subst hkn
        have he : sameT xs ys = true := by
          refine sameT_true ?_
          rw [← List.take_length (l := xs), ← List.take_length (l := ys), HX.out, HY.out, htk]
        have He := Lib.hid he
        clear htk he
        go_wp2
        go_ret
        rw [He.out]
        exact ⟨rfl, _, rfl⟩
  · have he : sameT xs ys = false := sameT_false fun h => hnm (by rw [← hxl, ← hyl, h])
    clear hxl hyl
    have He := Lib.hid he
    clear he
    go_enter Tryz.func15, Tryz.ntmps15
    go_wp2
    go_ret
    rw [He.out]
    exact ⟨rfl, 0, rfl⟩

set_option maxHeartbeats 2000000 in
set_option maxRecDepth 100000 in
theorem RefSameInts_any (A B : Option Addr) (n m c d : Nat) (xs ys : List Int) (w : World) (ha : Rd w 1 A n (xs.map eZ)) (hb : Rd w 1 B m (ys.map eZ)) (hn : n ≤ 4294967296) (hm : m ≤ 4294967296) :
    Calls Tryz.prog 38 #[.slice A n c, .slice B m d] w fun e w' => e = .returned (.bool (sameZ xs ys)) ∧ ∃ q, w' = w.drewN q := by
  have hxl : xs.length = n := by have := ha.1; simpa using this
  have hyl : ys.length = m := by have := hb.1; simpa using this
  by_cases hnm : n = m
  · subst hnm
    have HX := Lib.hid hxl
    have HY := Lib.hid hyl
    clear hxl hyl
    go_enter Tryz.func38, Tryz.ntmps38
    go_wp2
    go_loopw [5] (fun i wr => ∃ (k q : Nat), i = .int .i64 k ∧ k ≤ n ∧ xs.take k = ys.take k ∧ wr = w.drewN q) (fun i _ => n - (intOf i).toNat)
    case atStart => exact ⟨0, 0, rfl, Nat.zero_le _, rfl, rfl⟩
    case round =>
      obtain ⟨k, q, rfl, hk, htk, rfl⟩ := hrel
      by_cases hlt : k < n
      · obtain ⟨b1, o1, x, rfl, hx, hcx⟩ := ha.at1 hlt
        obtain ⟨b2, o2, y, rfl, hy, hcy⟩ := hb.at1 hlt
        unfold eZ at hcx hcy
        have H1 := Lib.hid htk
        have H2 := Lib.hid hx
        have H3 := Lib.hid hy
        clear htk hx hy
        by_cases hxy : x = y
        · subst hxy
          go_wp2
          go_quiet (fail)
          go_wp2
          go_roundw
          case rel => exact ⟨k + 1, _, by go_num, by omega, by rw [take_snoc' H2.out, take_snoc' H3.out, H1.out], rfl⟩
          case measure => simp [intOf]; omega
        · have hne : sameZ xs ys = false := by
            refine sameZ_false fun h => hxy ?_
            have h2 := H2.out
            rw [h, H3.out] at h2
            exact (Option.some.inj h2).symm
          skip
          go_wp2
          go_quiet (fail)
          go_wp2
          go_ret
          rw [hne]
          exact ⟨rfl, _, World.drewN_drewN _ _ _⟩
      · have hkn : k = n := by omega
        subst hkn
        have he : sameZ xs ys = true := by
          refine sameZ_true ?_
          rw [← List.take_length (l := xs), ← List.take_length (l := ys), HX.out, HY.out, htk]
        have He := Lib.hid he
        clear htk he
        go_wp2
        go_ret
        rw [He.out]
        exact ⟨rfl, _, rfl⟩
  · have he : sameZ xs ys = false := sameZ_false fun h => hnm (by rw [← hxl, ← hyl, h])
    clear hxl hyl
    have He := Lib.hid he
    clear he
    go_enter Tryz.func38, Tryz.ntmps38
    go_wp2
    go_ret
    rw [He.out]
    exact ⟨rfl, 0, rfl⟩
end Go.Proofs.YtbjgfjmknnbahaaGreatDoor

/- Contracts: classes of runes. -/
namespace Go.Proofs.YtbjgfjmknnbahaaGreatDoor
open Go.RowKit

set_option maxHeartbeats 2000000 in
set_option maxRecDepth 100000 in
theorem Class_any (r : Int) (w : World) (h0 : -2147483648 ≤ r) (h1 : r ≤ 2147483647) :
    Calls Tryz.prog 48 #[.int .i32 r] w fun e w' => e = .returned (.int .i64 (cls r)) ∧ w = w' := by
  go_enter Tryz.func48, Tryz.ntmps48
  go_wp2
  all_goals (go_ret; refine ⟨congrArg (fun v => Ending.returned (.int .i64 v)) (cls_eq ?_), rfl⟩; go_light; (try simp only [beq_iff_eq, beq_eq_false_iff_ne, ne_eq, bne_iff_ne, bne_eq_false_iff_eq, and_true, true_and, and_false, false_and, or_false, false_or, true_or, or_true] at *) <;> omega)

set_option maxHeartbeats 2000000 in
set_option maxRecDepth 100000 in
theorem RefClass_any (r : Int) (w : World) (h0 : -2147483648 ≤ r) (h1 : r ≤ 2147483647) :
    Calls Tryz.prog 34 #[.int .i32 r] w fun e w' => e = .returned (.int .i64 (cls r)) ∧ w = w' := by
  go_enter Tryz.func34, Tryz.ntmps34
  go_wp2
  all_goals (go_ret; refine ⟨congrArg (fun v => Ending.returned (.int .i64 v)) (cls_eq ?_), rfl⟩; go_light; (try simp only [beq_iff_eq, beq_eq_false_iff_ne, ne_eq, bne_iff_ne, bne_eq_false_iff_eq, and_true, true_and, and_false, false_and, or_false, false_or, true_or, or_true] at *) <;> omega)
end Go.Proofs.YtbjgfjmknnbahaaGreatDoor

/- Contract: rebusref02.Words: the pieces between blanks. -/
set_option linter.unusedVariables false
set_option linter.unusedSimpArgs false
namespace Go.Proofs.YtbjgfjmknnbahaaGreatDoor
open Go.RowKit

def blankB (r : Nat) : Bool := decide (cls (r : Int) = 3)
def wordsL (s : ByteArray) : List ByteArray := Lib.goFieldsP blankB s
theorem blankB_true {r : Nat} (h : cls (r : Int) = 3) : blankB r = true := by simp [blankB, h]
theorem blankB_false {r : Nat} (h : cls (r : Int) ≠ 3) : blankB r = false := by simp [blankB, h]
theorem info_str : (Tryz.prog.info? 9).map (fun i => (i.zero, i.size, i.bytes)) = some (some (.string ⟨#[]⟩), 1, 16) := by kernel_rfl
/-- The state of the walk: where the open piece begins, or -1. -/
def stI : Option Nat → Int
  | some a => a
  | none => -1
theorem ownS {w : World} {B E k : Nat} {v : Value} {s : ByteArray} {acc : List (Nat × Nat)} {x : Nat × Nat} (h : w.ownsRow B E k v (acc.length + 1) ((acc.map fun x => eS (s.extract x.1 x.2)) ++ [eS (s.extract x.1 x.2)])) :
    w.ownsRow B E k v (acc ++ [x]).length ((acc ++ [x]).map fun x => eS (s.extract x.1 x.2)) := by
  rw [List.length_append, List.map_append]
  exact h

set_option maxHeartbeats 4000000 in
set_option maxRecDepth 100000 in
theorem RefWords_any (s : ByteArray) (w : World) (hs : s.size ≤ 4294967296) :
    Calls Tryz.prog 36 #[.string s] w fun e w' => Made w w' 9 1 (wordsL s).length ((wordsL s).map eS) e := by
  obtain ⟨i0, hi, hz0, hz1, hz2⟩ := info_parts info_str
  have hW : wordsL s = (Lib.closeSpans s (Lib.spansFromP blankB s s.size 0 none [])).map fun x => s.extract x.1 x.2 := rfl
  generalize hG : Lib.closeSpans s (Lib.spansFromP blankB s s.size 0 none []) = G at hW
  go_enter Tryz.func36, Tryz.ntmps36
  go_wp2
  go_loopw [3, 4, 5] (fun v fr p wr => ∃ (pos f : Nat) (st : Option Nat) (acc : List (Nat × Nat)), p = .int .i64 pos ∧ fr = .int .i64 (stI st) ∧ wr.ownsRow w.heap.size 9 1 v acc.length (acc.map fun x => eS (s.extract x.1 x.2)) ∧ Lib.closeSpans s (Lib.spansFromP blankB s f pos st acc) = G ∧ s.size ≤ pos + f ∧ pos ≤ s.size ∧ acc.length ≤ pos ∧ (∀ a, st = some a → a < pos) ∧ Below w.heap.size w wr) (fun _ _ p _ => s.size - (intOf p).toNat)
  case atStart =>
    exact ⟨0, s.size, none, [], rfl, rfl, World.ownsRow_nil _ _ _ _, hG, by omega, by omega, by simp, by simp, Below.refl _ _⟩
  case round =>
    obtain ⟨pos, f, st, acc, rfl, rfl, hown, hacc, hfu, hps, hal, hst, hbw⟩ := hrel
    have hsz := hbw.size
    by_cases hp : pos < s.size
    · have hwd := width_pos s pos hp
      have hwl := width_le s pos
      have hwi := width_in s pos hp
      have hrl := rune_le s pos
      obtain ⟨f, rfl⟩ : ∃ f', f = f' + 1 := ⟨f - 1, by omega⟩
      unfold Lib.spansFromP at hacc
      rw [if_pos hp] at hacc
      by_cases hc : cls ((Utf8.decode s pos).1 : Int) = 3
      · rw [if_pos (blankB_true hc)] at hacc
        cases st with
        | none =>
          simp only at hacc
          have Hacc := Lib.hid hacc
          have Hc := Lib.hid hc
          clear hacc hc
          simp only [stI]
          go_wp2_with (first
            | (go_at_call 67; refine (RefNext_at s pos _ (by omega) hp).mono ?_; rintro e w' ⟨rfl, rfl⟩)
            | (go_at_call 34; refine (RefClass_any _ _ (by omega) (by omega)).mono ?_; rintro e w' ⟨rfl, rfl⟩; rw [Hc.out]))
          go_roundw
          case rel => exact ⟨pos + (Utf8.decode s pos).2, f, none, acc, by go_num, rfl, hown, Hacc.out, by omega, by omega, by omega, by simp, hbw⟩
          case measure => simp [intOf]; omega
        | some a =>
          have ha := hst a rfl
          simp only at hacc
          have Hacc := Lib.hid hacc
          have Hc := Lib.hid hc
          clear hacc hc
          simp only [stI]
          go_wp2_with (first
            | (go_at_call 67; refine (RefNext_at s pos _ (by omega) hp).mono ?_; rintro e w' ⟨rfl, rfl⟩)
            | (go_at_call 34; refine (RefClass_any _ _ (by omega) (by omega)).mono ?_; rintro e w' ⟨rfl, rfl⟩; rw [Hc.out])
            | (at_builtin; refine wpList_append_own _ rfl _ _ 23 rfl w.heap.size 9 i0 (.string ⟨#[]⟩) 1 16 Tryz.underlying23 hi hz0 hz1 hz2 rfl (by decide) _ _ _ rfl (hown.alloc _) ⟨wr.heap.size, 0, none⟩ 1 1 [eS (s.extract a pos)] rfl rfl (cell_one_new _ _ _) (by simp [eS, Value.oneCell']) (by simp only [maxLen]; omega) (by omega) (by simp; omega) ?_; intro v' w1 hown1 hg1 hn1))
          go_roundw
          case rel => exact ⟨pos + (Utf8.decode s pos).2, f, none, acc ++ [(a, pos)], by go_num, rfl, ownS hown1, Hacc.out, by omega, by omega, by simp; omega, by simp, (hbw.alloc hsz _).grown hg1 (by simp; omega) (fun k e => (hown.lt k e).1)⟩
          case measure => simp [intOf]; omega
      · have hc2 : (cls ((Utf8.decode s pos).1 : Int) == 3) = false := by simp [hc]
        rw [if_neg (by simp [blankB_false hc])] at hacc
        cases st with
        | none =>
          simp only at hacc
          have Hacc := Lib.hid hacc
          clear hacc hc
          simp only [stI]
          go_wp2_with (first
            | (go_at_call 67; refine (RefNext_at s pos _ (by omega) hp).mono ?_; rintro e w' ⟨rfl, rfl⟩)
            | (go_at_call 34; refine (RefClass_any _ _ (by omega) (by omega)).mono ?_; rintro e w' ⟨rfl, rfl⟩))
          go_roundw
          case rel => exact ⟨pos + (Utf8.decode s pos).2, f, some pos, acc, by go_num, rfl, hown, Hacc.out, by omega, by omega, by omega, by intro a e; cases e; omega, hbw⟩
          case measure => simp [intOf]; omega
        | some a =>
          have ha := hst a rfl
          simp only at hacc
          have Hacc := Lib.hid hacc
          clear hacc hc
          simp only [stI]
          go_wp2_with (first
            | (go_at_call 67; refine (RefNext_at s pos _ (by omega) hp).mono ?_; rintro e w' ⟨rfl, rfl⟩)
            | (go_at_call 34; refine (RefClass_any _ _ (by omega) (by omega)).mono ?_; rintro e w' ⟨rfl, rfl⟩))
          go_roundw
          case rel => exact ⟨pos + (Utf8.decode s pos).2, f, some a, acc, by go_num, rfl, hown, Hacc.out, by omega, by omega, by omega, by intro b e; cases e; omega, hbw⟩
          case measure => simp [intOf]; omega
    · rw [Lib.spansFromP_end _ _ _ _ _ _ hp] at hacc
      cases st with
      | none =>
        simp only [Lib.closeSpans] at hacc
        subst hacc
        have HW := Lib.hid hW
        clear hW hG
        simp only [stI]
        go_wp2
        go_ret
        rw [HW.out, List.length_map, List.map_map]
        exact made_of hown hbw
      | some a =>
        have ha := hst a rfl
        simp only [Lib.closeSpans] at hacc
        have Hacc := Lib.hid hacc
        have HW := Lib.hid hW
        clear hW hG hacc
        simp only [stI]
        go_wp2_with ((at_builtin; refine wpList_append_own _ rfl _ _ 23 rfl w.heap.size 9 i0 (.string ⟨#[]⟩) 1 16 Tryz.underlying23 hi hz0 hz1 hz2 rfl (by decide) _ _ _ rfl (hown.alloc _) ⟨wr.heap.size, 0, none⟩ 1 1 [eS (s.extract a s.size)] rfl rfl (cell_one_new _ _ _) (by simp [eS, Value.oneCell']) (by simp only [maxLen]; omega) (by omega) (by simp; omega) ?_; intro v' w1 hown1 hg1 hn1))
        go_ret
        rw [HW.out, ← Hacc.out, List.length_map, List.map_map]
        exact made_of (ownS hown1) ((hbw.alloc hsz _).grown hg1 (by simp; omega) (fun k e => (hown.lt k e).1))
end Go.Proofs.YtbjgfjmknnbahaaGreatDoor

/- Words on what a text reads as: a clue, or a place and an error. -/
set_option linter.unusedVariables false
set_option linter.unusedSimpArgs false
namespace Go.Proofs.YtbjgfjmknnbahaaGreatDoor
open Go.RowKit

/-- Behind the last rune that is no blank. -/
def endL (L : List Nat) : Nat → Nat
  | 0 => 0
  | k + 1 => if cls (L.getD k 0 : Nat) = 3 then endL L k else k + 1
/-- The last bracket that opens. -/
def openL (L : List Nat) : Nat → Option Nat
  | 0 => none
  | k + 1 => if L.getD k 0 = 40 then some k else openL L k
abbrev Parsed := List ByteArray × List Nat × ByteArray × Nat × Nat
def parseBad (at' err : Nat) : Parsed := ([], [], ByteArray.empty, at', err)
def neW (x : ByteArray) : Bool := (foldT x true).size != 0
def keepW (ws : List ByteArray) : List ByteArray := ws.filter neW
def parseEnd (ws : List ByteArray) (l : List Nat) (mk : ByteArray) : Parsed := if ws.length < 1 ∨ 12 < ws.length then parseBad 0 160 else (ws, l, mk, 0, 0)
def parseTail (s : ByteArray) (po pe : Nat) : Parsed :=
  match sizesF (s.extract (po + 1) pe) with
  | none => parseBad po 161
  | some (l, mk) => parseEnd (keepW (wordsL (s.extract 0 po))) l mk
def parseL (s : ByteArray) (L Ps : List Nat) : Parsed :=
  if 65536 < s.size then parseBad 65536 1 else
  match openL L (endL L L.length) with
  | none => parseBad s.size 161
  | some o => if endL L L.length = 0 ∨ L.getD (endL L L.length - 1) 0 ≠ 41 then parseBad s.size 161 else parseTail s (Ps.getD o 0) (Ps.getD (endL L L.length - 1) 0)
def parseF (s : ByteArray) : Parsed := parseL s (runes s) ((seqs s).map (·.1))
theorem endL_le (L : List Nat) : ∀ k, endL L k ≤ k
  | 0 => Nat.le_refl _
  | k + 1 => by
    unfold endL
    split
    · have := endL_le L k; omega
    · exact Nat.le_refl _
theorem openL_lt (L : List Nat) : ∀ k o, openL L k = some o → o < k ∧ L.getD o 0 = 40
  | 0, o, h => by simp [openL] at h
  | k + 1, o, h => by
    unfold openL at h
    split at h
    · rename_i h1
      injection h with h; subst h
      exact ⟨by omega, h1⟩
    · have := openL_lt L k o h
      exact ⟨by omega, this.2⟩
theorem getD_at {α : Type} {l : List α} {k : Nat} {x d : α} (h : l[k]? = some x) : l.getD k d = x := by
  rw [List.getD_eq_getElem?_getD, h]; rfl
theorem keepW_cons (x : ByteArray) (l : List ByteArray) : keepW (x :: l) = if neW x then x :: keepW l else keepW l := by
  unfold keepW
  rw [List.filter_cons]
theorem keepW_le (l : List ByteArray) : (keepW l).length ≤ l.length := List.length_filter_le _ _
theorem neW_true {x : ByteArray} (h : neW x = true) : (foldT x true).size ≠ 0 := by simpa [neW] using h
theorem neW_false {x : ByteArray} (h : neW x = false) : foldT x true = ByteArray.empty := by
  have : (foldT x true).size = 0 := by simpa [neW] using h
  apply ByteArray.ext
  exact Array.eq_empty_of_size_eq_zero this
end Go.Proofs.YtbjgfjmknnbahaaGreatDoor

/- Plain Lean: clue.Parse's way to read a text and the document's are one. -/
set_option linter.unusedVariables false
set_option linter.unusedSimpArgs false
namespace Go.Proofs.YtbjgfjmknnbahaaGreatDoor
open Go.RowKit

theorem decodeLast_nbsp (l : List UInt8) (i : Nat) (h2 : 2 ≤ i) (hl : i ≤ l.length) (h0 : (l.getD (i - 2) 0).toNat = 194) (h1 : (l.getD (i - 1) 0).toNat = 160) : Lib.decodeLastL (l.take i) = (160, 2) := by
  have hlen : (l.take i).length = i := by rw [List.length_take]; omega
  have hne : l.take i ≠ [] := fun h => by rw [h] at hlen; simp at hlen; omega
  have hs : Lib.lastStart (l.take i) = i - 2 := by
    unfold Lib.lastStart
    simp only [hlen]
    rw [if_neg (by omega), if_pos]
    rw [Lib.getD_takeU l i (i - 2) (by omega)]
    have : l.getD (i - 2) 0 = 194 := by rw [← UInt8.toNat_inj, h0]; rfl
    rw [this]
    decide
  have hd : Lib.decodeL ((l.take i).drop (i - 2)) = (160, 2) := by
    rw [Lib.decodeL_N, List.length_drop, hlen, Lib.getD_dropU, Lib.getD_dropU, Lib.getD_takeU l i (i - 2 + 0) (by omega), Lib.getD_takeU l i (i - 2 + 1) (by omega), Nat.add_zero, h0, show i - 2 + 1 = i - 1 by omega, h1]
    unfold Lib.decodeN
    rw [if_neg (by omega), if_pos ⟨by omega, by omega, by omega⟩, if_pos (by omega)]
  unfold Lib.decodeLastL
  rw [if_neg hne, hlen, Lib.getD_takeU l i (i - 1) (by omega), if_neg (by omega)]
  simp only [hs, hd]
  rw [if_pos (by omega)]

/-- A rune found backwards, and the last one found forwards: both blank and the same, or neither blank. -/
theorem last_back (s : ByteArray) (k : Nat) (hk : k < (runes s).length) :
    (cls ((runes s).getD k 0 : Nat) = 3 → Lib.decodeLastL (s.data.toList.take (place s (k + 1))) = Utf8.decode s (place s k)) ∧
    (cls ((runes s).getD k 0 : Nat) ≠ 3 → cls ((Lib.decodeLastL (s.data.toList.take (place s (k + 1)))).1 : Nat) ≠ 3) := by
  obtain ⟨p1, p2, p3⟩ := place_step s k hk
  have hw := width_pos s (place s k) p2
  have hle := place_le s (k + 1) (by omega)
  have hsz : s.data.toList.length = s.size := (Lib.size_eq s).symm
  rw [p1]
  constructor
  · intro hc
    rw [Lib.decode_at] at hc
    rcases decodeN_blank _ _ _ _ _ hc with ⟨h1, h2⟩ | ⟨h1, h2, h3, h4⟩
    · rw [← Lib.decode_at] at h2
      rw [h2] at p3 ⊢
      simp only at p3
      rcases Lib.last_cases s.data.toList (place s (k + 1)) (by omega) (by omega) with ⟨ha, hd⟩ | ⟨ha, hd⟩ | ⟨ha, _⟩
      · rw [hd, Lib.getD_get!', show place s (k + 1) - 1 = place s k by omega]
      · rw [Lib.getD_get!', show place s (k + 1) - 1 = place s k by omega] at ha
        omega
      · rw [Lib.getD_get!', show place s (k + 1) - 1 = place s k by omega] at ha
        omega
    · rw [← Lib.decode_at] at h4
      rw [h4] at p3 ⊢
      simp only at p3
      refine decodeLast_nbsp _ _ (by omega) (by omega) ?_ ?_
      · rw [Lib.getD_get!', show place s (k + 1) - 2 = place s k by omega]; exact h1
      · rw [Lib.getD_get!', show place s (k + 1) - 1 = place s k + 1 by omega]; exact h2
  · intro hc hb
    have bytes : 2 ≤ place s (k + 1) → (s.get! (place s (k + 1) - 2)).toNat = 194 → (s.get! (place s (k + 1) - 1)).toNat = 160 → False := by
      intro g0 g1 g2
      obtain ⟨j, hj, hjp⟩ := place_at s (place s (k + 1) - 2) (by omega) (by rw [g1]; decide)
      have hd := decode_nbsp s (place s (k + 1) - 2) (by omega) g1 (by rw [show place s (k + 1) - 2 + 1 = place s (k + 1) - 1 by omega]; exact g2)
      obtain ⟨q1, q2, q3⟩ := place_step s j hj
      rw [hjp, hd] at q3
      simp only at q3
      have hjk : j + 1 = k + 1 := place_inj s (j + 1) (k + 1) (by omega) (by omega) (by omega)
      obtain rfl : j = k := by omega
      rw [hjp, hd] at hc
      exact hc cls160
    rcases Lib.last_cases s.data.toList (place s (k + 1)) (by omega) (by omega) with ⟨ha, hd⟩ | ⟨ha, hd⟩ | ⟨ha, st, hst, hd, hsum⟩
    · rw [Lib.getD_get!'] at ha hd
      have hl := place_last s k hk (by omega)
      rw [hl, Nat.add_sub_cancel] at ha hd
      rw [decode_lo s _ ha] at hc
      rw [hl, hd] at hb
      exact hc hb
    · rw [hd] at hb
      exact absurd hb (by decide)
    · rw [hd, Lib.decodeL_N] at hb
      have hdx := decodeN_blank _ _ _ _ _ hb
      rw [← Lib.decodeL_N] at hdx
      have hlen : ((s.data.toList.take (place s (k + 1))).drop st).length = place s (k + 1) - st := by rw [List.length_drop, List.length_take]; omega
      rcases hdx with ⟨h1, h2⟩ | ⟨h1, h2, h3, h4⟩
      · rw [h2] at hsum
        simp only at hsum
        rw [Lib.getD_dropU, Lib.getD_takeU _ _ _ (by omega), show st + 0 = place s (k + 1) - 1 by omega] at h1
        omega
      · rw [h4] at hsum
        simp only at hsum
        rw [Lib.getD_dropU, Lib.getD_takeU _ _ _ (by omega), Lib.getD_get!'] at h1 h2
        rw [show st + 0 = place s (k + 1) - 2 by omega] at h1
        rw [show st + 1 = place s (k + 1) - 1 by omega] at h2
        exact bytes (by omega) h1 h2

theorem endL_succ (L : List Nat) (k : Nat) : endL L (k + 1) = if cls (L.getD k 0 : Nat) = 3 then endL L k else k + 1 := rfl
/-- Backwards over the blanks: as the document does. -/
theorem back_scan (s : ByteArray) : ∀ (k f : Nat), k ≤ (runes s).length → place s k ≤ f →
    Lib.lastIdxFuncFrom blankB false s f (place s k) = if endL (runes s) k = 0 then -1 else ((place s (endL (runes s) k) - (Lib.decodeLastL (s.data.toList.take (place s (endL (runes s) k)))).2 : Nat) : Int)
  | 0, f, hk, hf => by
    rw [place_zero]
    cases f <;> simp [Lib.lastIdxFuncFrom, endL]
  | k + 1, f, hk, hf => by
    have hpos : 0 < place s (k + 1) := by have := place_lt_succ s k (by omega); omega
    obtain ⟨f, rfl⟩ : ∃ f', f = f' + 1 := ⟨f - 1, by omega⟩
    obtain ⟨l1, l2⟩ := last_back s k (by omega)
    obtain ⟨p1, p2, p3⟩ := place_step s k (by omega)
    have hw := width_pos s (place s k) p2
    unfold Lib.lastIdxFuncFrom
    rw [if_pos hpos, endL_succ]
    by_cases hc : cls ((runes s).getD k 0 : Nat) = 3
    · rw [if_pos hc, l1 hc]
      have hb : blankB (Utf8.decode s (place s k)).1 = true := blankB_true (by rw [← p1]; exact hc)
      rw [if_neg (by rw [hb]; decide), show place s (k + 1) - (Utf8.decode s (place s k)).2 = place s k by omega]
      exact back_scan s k f (by omega) (by omega)
    · rw [if_neg hc, if_pos (blankB_false (l2 hc)), if_neg (by omega)]
theorem goB_drop (s : ByteArray) (p : Nat) (h : p < s.size) : Lib.decodeGoB (s.extract p s.size) = Utf8.decode s p := by
  have hx : s.extract p s.size = ⟨(s.data.toList.drop p).toArray⟩ := by
    rw [Lib.extract_eq, List.take_of_length_le (by rw [List.length_drop, ← Lib.size_eq]; exact Nat.le_refl _)]
  have hxs : (⟨(s.data.toList.drop p).toArray⟩ : ByteArray).size ≠ 0 := by
    rw [Lib.size_eq]
    simp only [List.length_drop]
    rw [← Lib.size_eq]
    omega
  rw [hx]
  unfold Lib.decodeGoB
  rw [if_neg hxs]
  exact Lib.decodeL_drop s p
theorem lastL_width (l : List UInt8) (i : Nat) (hi : 0 < i) (hil : i ≤ l.length) : 1 ≤ (Lib.decodeLastL (l.take i)).2 ∧ (Lib.decodeLastL (l.take i)).2 ≤ i := by
  have h := Lib.decodeLastL_width (l.take i) (by rw [List.length_take]; omega)
  rw [List.length_take, Nat.min_eq_left hil] at h
  exact h
/-- Where TrimRightFunc cuts, with regard to a closing bracket. -/
theorem trim_end (s : ByteArray) :
    (endL (runes s) (runes s).length = 0 → Lib.rightEndF blankB s = 0) ∧
    (0 < endL (runes s) (runes s).length → 0 < Lib.rightEndF blankB s ∧ Lib.rightEndF blankB s ≤ s.size ∧
      ((s.get! (place s (endL (runes s) (runes s).length) - 1)).toNat < 128 → Lib.rightEndF blankB s = place s (endL (runes s) (runes s).length)) ∧
      (128 ≤ (s.get! (place s (endL (runes s) (runes s).length) - 1)).toNat → 128 ≤ (s.get! (Lib.rightEndF blankB s - 1)).toNat)) := by
  have hb := back_scan s (runes s).length s.size (Nat.le_refl _) (by rw [place_end]; exact Nat.le_refl _)
  rw [place_end] at hb
  have hb' : Lib.lastIdxFunc blankB false s = if endL (runes s) (runes s).length = 0 then -1 else ((place s (endL (runes s) (runes s).length) - (Lib.decodeLastL (s.data.toList.take (place s (endL (runes s) (runes s).length)))).2 : Nat) : Int) := hb
  have hel := endL_le (runes s) (runes s).length
  generalize endL (runes s) (runes s).length = e at hb' hel ⊢
  unfold Lib.rightEndF
  rw [hb']
  constructor
  · intro h0
    rw [if_pos h0, if_neg (by omega)]
  · intro h0
    obtain ⟨e, rfl⟩ : ∃ e', e = e' + 1 := ⟨e - 1, by omega⟩
    have hp := place_lt_succ s e (by omega)
    have hle := place_le s (e + 1) (by omega)
    have hsz : s.data.toList.length = s.size := (Lib.size_eq s).symm
    have hlw := lastL_width s.data.toList (place s (e + 1)) (by omega) (by omega)
    rw [if_neg (Nat.succ_ne_zero e), if_pos (Int.natCast_nonneg _), Int.toNat_natCast]
    rcases Lib.last_cases s.data.toList (place s (e + 1)) (by omega) (by omega) with ⟨ha, hd⟩ | ⟨ha, hd⟩ | ⟨ha, st, hst, hd, hsum⟩
    · rw [hd, goB_drop s _ (by omega), decode_lo s (place s (e + 1) - 1) (by rw [← Lib.getD_get!']; exact ha)]
      rw [Lib.getD_get!'] at ha
      simp only
      rw [Nat.sub_add_cancel (by omega)]
      exact ⟨by omega, hle, fun _ => rfl, fun h => h⟩
    · rw [hd, goB_drop s _ (by omega)]
      rw [Lib.getD_get!'] at ha
      simp only
      have hwp := width_pos s (place s (e + 1) - 1) (by omega)
      have hwi := width_in s (place s (e + 1) - 1) (by omega)
      refine ⟨by omega, hwi, fun h => by omega, fun _ => ?_⟩
      have := decode_all_hi s (place s (e + 1) - 1) ha ((Utf8.decode s (place s (e + 1) - 1)).2 - 1) (by omega)
      rw [show place s (e + 1) - 1 + ((Utf8.decode s (place s (e + 1) - 1)).2 - 1) = place s (e + 1) - 1 + (Utf8.decode s (place s (e + 1) - 1)).2 - 1 by omega] at this
      exact this
    · rw [hd, show place s (e + 1) - (Lib.decodeL ((s.data.toList.take (place s (e + 1))).drop st)).2 = st by omega, goB_drop s _ (by omega)]
      rw [Lib.getD_get!'] at ha
      have hwp := width_pos s st (by omega)
      have hwi := width_in s st (by omega)
      have hst2 : 128 ≤ (s.get! st).toNat := by
        rcases Nat.lt_or_ge (s.get! st).toNat 128 with h1 | h1
        · exfalso
          rw [Lib.decodeL_N, Lib.getD_dropU, Lib.getD_takeU _ _ _ (by omega), Lib.getD_get!', show st + 0 = st from rfl, Lib.decodeN_ascii _ _ _ _ _ h1] at hsum
          simp only at hsum
          rw [show place s (e + 1) - 1 = st by omega] at ha
          omega
        · exact h1
      refine ⟨by omega, hwi, fun h => by omega, fun _ => ?_⟩
      have := decode_all_hi s st hst2 ((Utf8.decode s st).2 - 1) (by omega)
      rw [show st + ((Utf8.decode s st).2 - 1) = st + (Utf8.decode s st).2 - 1 by omega] at this
      exact this
theorem suffix_one (l : List UInt8) (c : UInt8) : Lib.hasSuffix l [c] = (l.getLast? == some c) := by
  unfold Lib.hasSuffix
  rw [List.isSuffixOf, List.getLast?_eq_head?_reverse]
  cases l.reverse with
  | nil => rfl
  | cons x t =>
    simp only [List.reverse_cons, List.reverse_nil, List.nil_append, List.isPrefixOf, Bool.and_true, List.head?_cons]
    rw [Bool.eq_iff_iff]
    simp only [beq_iff_eq, Option.some.injEq]
    exact eq_comm
theorem suffix_take (s : ByteArray) (E : Nat) (h : E ≤ s.size) : Lib.hasSuffix (s.extract 0 E).data.toList [41] = (decide (0 < E) && decide ((s.get! (E - 1)).toNat = 41)) := by
  rw [suffix_one, Lib.extract_data, List.drop_zero, Nat.sub_zero]
  rcases Nat.eq_zero_or_pos E with rfl | h0
  · simp
  · have hl : (s.data.toList.take E).length = E := by rw [List.length_take, ← Lib.size_eq]; omega
    rw [List.getLast?_eq_getElem?, hl, List.getElem?_take, if_pos (by omega)]
    have hd : E - 1 < s.data.size := by show E - 1 < s.size; omega
    have : s.data.toList[E - 1]? = some (s.get! (E - 1)) := by
      rw [ByteArray.get!, getElem!_pos s.data (E - 1) hd]
      simp [Array.getElem?_toList, hd]
    rw [this, Bool.eq_iff_iff]
    simp only [beq_iff_eq, Option.some.injEq, Bool.and_eq_true, decide_eq_true_eq]
    rw [← UInt8.toNat_inj]
    exact ⟨fun h => ⟨h0, h⟩, fun h => h.2⟩
theorem trimSuffix_take (s : ByteArray) (E : Nat) (h0 : 0 < E) (h : E ≤ s.size) (hc : (s.get! (E - 1)).toNat = 41) : (⟨(Lib.trimSuffix (s.extract 0 E).data.toList [41]).toArray⟩ : ByteArray) = s.extract 0 (E - 1) := by
  unfold Lib.trimSuffix
  rw [suffix_take s E h, hc]
  simp only [decide_true, Bool.and_true, decide_eq_true_eq, if_pos h0]
  rw [Lib.extract_data, Lib.extract_eq, List.drop_zero, List.length_take, ← Lib.size_eq, Nat.min_eq_left (by omega), Nat.sub_zero, Nat.sub_zero, List.take_take]
  congr 2
  simp

/-- The last bracket that opens: by bytes and by runes. -/
theorem lastIdx_skip (s : ByteArray) (q : Nat) : ∀ j, (∀ x, x < j → (s.get! (q + x)).toNat ≠ 40) → Lib.lastIdx s 40 (q + j) = Lib.lastIdx s 40 q
  | 0, _ => rfl
  | j + 1, h => by
    have := h j (by omega)
    show Lib.lastIdx s 40 (q + j + 1) = _
    rw [Lib.lastIdx_miss s 40 (q + j) (fun e => this (by exact_mod_cast e))]
    exact lastIdx_skip s q j (fun x hx => h x (by omega))
def opI (s : ByteArray) : Option Nat → Int
  | none => -1
  | some o => (place s o : Nat)
theorem open_scan (s : ByteArray) : ∀ k, k ≤ (runes s).length → Lib.lastIdx s 40 (place s k) = opI s (openL (runes s) k)
  | 0, _ => by rw [place_zero]; rfl
  | k + 1, hk => by
    obtain ⟨p1, p2, p3⟩ := place_step s k (by omega)
    have ih := open_scan s k (by omega)
    have hw := width_pos s (place s k) p2
    unfold openL
    by_cases hc : (runes s).getD k 0 = 40
    · rw [if_pos hc]
      have hlo : (s.get! (place s k)).toNat < 128 := by
        rcases Nat.lt_or_ge (s.get! (place s k)).toNat 128 with h1 | h1
        · exact h1
        · have := decode_hi s _ h1; omega
      rw [decode_lo s _ hlo] at p1 p3
      simp only at p1 p3
      rw [p3]
      exact Lib.lastIdx_hit s 40 (place s k) (by show ((s.get! (place s k)).toNat : Int) = 40; omega)
    · rw [if_neg hc, p3, lastIdx_skip s (place s k), ih]
      intro x hx
      rcases Nat.lt_or_ge (s.get! (place s k)).toNat 128 with h1 | h1
      · rw [decode_lo s _ h1] at p1 hx
        simp only at p1 hx
        obtain rfl : x = 0 := by omega
        rw [Nat.add_zero]
        omega
      · have := decode_all_hi s _ h1 x hx
        omega
theorem lastIdx_extract (s : ByteArray) (m : Nat) (hm : m ≤ s.size) : ∀ k, k ≤ m → Lib.lastIdx (s.extract 0 m) 40 k = Lib.lastIdx s 40 k
  | 0, _ => rfl
  | k + 1, h => by
    have e : (s.extract 0 m).data[k]! = s.data[k]! := by
      have h1 : k < (s.extract 0 m).data.size := by show k < (s.extract 0 m).size; rw [ByteArray.size_extract]; omega
      have h2 : k < s.data.size := by show k < s.size; omega
      rw [getElem!_pos (s.extract 0 m).data k h1, getElem!_pos s.data k h2]
      have := ByteArray.getElem_extract (b := s) (start := 0) (stop := m) (i := k) (h := h1)
      simp
    unfold Lib.lastIdx
    rw [e, lastIdx_extract s m hm k (by omega)]

/-- Is there a bracket at the end; what stands before it. -/
def closedT (T : ByteArray) : Bool := Lib.hasSuffix T.data.toList [41]
def innerT (T : ByteArray) : ByteArray := ⟨(Lib.trimSuffix T.data.toList [41]).toArray⟩
/-- What clue.Parse tells. -/
def parseG (s : ByteArray) : Parsed :=
  if 65536 < s.size then parseBad 65536 1 else
  if closedT (Lib.trimRightF blankB s) = false ∨ Lib.lastIndexByte (innerT (Lib.trimRightF blankB s)) 40 < 0 then parseBad s.size 161 else
  match sizesF ((innerT (Lib.trimRightF blankB s)).extract ((Lib.lastIndexByte (innerT (Lib.trimRightF blankB s)) 40).toNat + 1) (innerT (Lib.trimRightF blankB s)).size) with
  | none => parseBad (Lib.lastIndexByte (innerT (Lib.trimRightF blankB s)) 40).toNat 161
  | some (l, mk) => parseEnd (keepW (wordsL (s.extract 0 (Lib.lastIndexByte (innerT (Lib.trimRightF blankB s)) 40).toNat))) l mk
theorem parseG_eq (s : ByteArray) : parseG s = parseF s := by
  obtain ⟨t0, t1⟩ := trim_end s
  have hel := endL_le (runes s) (runes s).length
  unfold parseG parseF parseL closedT innerT
  by_cases hbig : 65536 < s.size
  · rw [if_pos hbig, if_pos hbig]
  rw [if_neg hbig, if_neg hbig]
  have hT : Lib.trimRightF blankB s = s.extract 0 (Lib.rightEndF blankB s) := rfl
  rw [hT]
  have hps : ∀ k, ((seqs s).map (·.1)).getD k 0 = place s k ∨ (runes s).length ≤ k := by
    intro k
    rcases Nat.lt_or_ge k (runes s).length with h | h
    · left
      unfold place
      have : k < ((seqs s).map (·.1)).length := by simpa [runes] using h
      rw [List.getD_eq_getElem?_getD, List.getD_eq_getElem?_getD, List.getElem?_eq_getElem this]
      rfl
    · exact .inr h
  generalize endL (runes s) (runes s).length = e at t0 t1 hel ⊢
  generalize Lib.rightEndF blankB s = E at t0 t1 ⊢
  rcases Nat.eq_zero_or_pos e with h0 | h0
  · have hE := t0 h0
    subst h0 hE
    rw [if_pos (.inl (by rw [suffix_take s 0 (Nat.zero_le _)]; rfl))]
    rfl
  · obtain ⟨hE0, hE1, t2, t3⟩ := t1 h0
    obtain ⟨e, rfl⟩ : ∃ e', e = e' + 1 := ⟨e - 1, by omega⟩
    rw [suffix_take s E hE1]
    obtain ⟨p1, p2, p3⟩ := place_step s e (by omega)
    have hw := width_pos s (place s e) p2
    by_cases hlast : (runes s).getD e 0 = 41
    · -- closed
      have hlo : (s.get! (place s e)).toNat < 128 := by
        rcases Nat.lt_or_ge (s.get! (place s e)).toNat 128 with h1 | h1
        · exact h1
        · have := decode_hi s _ h1; omega
      rw [decode_lo s _ hlo] at p1 p3
      simp only at p1 p3
      have hE : E = place s e + 1 := by rw [← p3]; exact t2 (by rw [p3, Nat.add_sub_cancel]; exact hlo)
      subst hE
      have hc : (s.get! (place s e + 1 - 1)).toNat = 41 := by rw [Nat.add_sub_cancel]; omega
      rw [trimSuffix_take s _ hE0 hE1 hc, hc, Nat.add_sub_cancel]
      have hin : Lib.lastIndexByte (s.extract 0 (place s e)) 40 = opI s (openL (runes s) e) := by
        unfold Lib.lastIndexByte
        rw [ByteArray.size_extract, Nat.sub_zero, Nat.min_eq_left (by omega), lastIdx_extract s _ (by omega) _ (Nat.le_refl _)]
        exact open_scan s e (by omega)
      have hop : openL (runes s) (e + 1) = openL (runes s) e := by
        rw [openL, if_neg (by rw [hlast]; decide)]
      rw [hin, hop, Nat.add_sub_cancel]
      cases ho : openL (runes s) e with
      | none =>
        rw [if_pos (.inr (by simp [opI]))]
      | some o =>
        have hol := (openL_lt (runes s) e o ho).1
        rw [if_neg (by simp [opI, hE0])]
        simp only [opI, Int.toNat_natCast]
        rw [if_neg (show ¬ (e + 1 = 0 ∨ (runes s).getD e 0 ≠ 41) by rw [hlast]; simp)]
        unfold parseTail
        rcases hps o with ho1 | ho1
        · rcases hps e with ho2 | ho2
          · rw [ho1, ho2]
            have hos := place_strict s o e (by omega) hol
            have hx : (s.extract 0 (place s e)).extract (place s o + 1) (s.extract 0 (place s e)).size = s.extract (place s o + 1) (place s e) := by
              rw [ByteArray.size_extract, Nat.sub_zero, Nat.min_eq_left (by omega), ByteArray.extract_extract, Nat.zero_add, Nat.zero_add, Nat.min_eq_left (Nat.le_refl _)]
            rw [hx]
            all_goals (cases sizesF (s.extract (place s o + 1) (place s e)) <;> rfl)
          · omega
        · omega
    · have hnot : ¬ ((s.get! (E - 1)).toNat = 41) := by
        rcases Nat.lt_or_ge (s.get! (place s (e + 1) - 1)).toNat 128 with h1 | h1
        · rw [t2 h1]
          have hl := place_last s e (by omega) (by omega)
          rw [hl, Nat.add_sub_cancel] at h1 ⊢
          rw [decode_lo s _ h1] at p1
          simp only at p1
          omega
        · have := t3 h1; omega
      rw [if_pos (.inl (by simp [hnot]))]
      cases openL (runes s) (e + 1) with
      | none => rfl
      | some o =>
        simp only
        rw [if_pos (.inr (by rw [Nat.add_sub_cancel]; exact hlast))]
end Go.Proofs.YtbjgfjmknnbahaaGreatDoor

/- Words on which sizes are right. -/
set_option linter.unusedVariables false
set_option linter.unusedSimpArgs false
namespace Go.Proofs.YtbjgfjmknnbahaaGreatDoor
open Go.RowKit

/-- Are the sizes right? Each from 1 to 24, together up to 24, at least one. -/
def okFrom : List Int → Int → Bool
  | [], a => decide (0 < a)
  | k :: l, a => if k < 1 ∨ 24 < k then false else if 24 < a + k then false else okFrom l (a + k)
def sumFrom : List Int → Int → Int
  | [], a => a
  | k :: l, a => sumFrom l (a + k)
def okZ (l : List Int) : Bool := okFrom l 0
def sumZ (l : List Int) : Int := sumFrom l 0
def sumR (l : List Int) : Int := if okZ l then sumZ l else 0
end Go.Proofs.YtbjgfjmknnbahaaGreatDoor
