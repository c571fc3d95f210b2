/- Texts joined: RefPlainK2, RefPlainK3, PlainAll, Upper, LayB, BuildMem, FoldW, Small, RefUpper. -/
import Derived.Test.YtbjgfjmknnbahaaGreatDoorR5
import Derived.Test.YtbjgfjmknnbahaaGreatDoorProg
import Derived.WalkKit
import Derived.BigCall
import Derived.Lib.Hide
import Derived.WalkSpells
import Derived.WalkSmall
import Derived.Test.YtbjgfjmknnbahaaGreatDoorR6
import Derived.Test.YtbjgfjmknnbahaaGreatDoorR2
import Derived.Deep.Light
import Derived.Shelf.Lays
import Derived.Shelf.LaysM
import Derived.Shelf.Strings.BuilderK
import Derived.Shelf.Strings.BuilderRune
import Derived.Lib.FrozenHead2
import Derived.Lib.OthersKept
import Derived.Lib.UnsafeStr
import Derived.Lib.AppendStr
import Derived.RangeFuncOwn
import Derived.RangeFuncFrom
import Derived.Test.YtbjgfjmknnbahaaGreatDoorR3
import Derived.RangeFuncBox
import Derived.Lib.AppendIntMem
/- Walks of rebus/rebusref02.Plain at single runes. Printed by wip/gen/gen_plain.py. -/
set_option linter.unusedVariables false
set_option linter.unusedSimpArgs false
namespace Go.Proofs.YtbjgfjmknnbahaaGreatDoor
open Go.RowKit

set_option maxHeartbeats 8000000 in
set_option maxRecDepth 100000 in
theorem RefPlain_2_0 (r : Int) (w : World) (h : r ∈ cap_2_0) :
    Calls Tryz.prog 69 #[.int .i32 r] w fun e w' => e = .returned (.string (pln r)) ∧ Below w.heap.size w w' := by
  simp only [cap_2_0, List.mem_cons, List.not_mem_nil, or_false] at h
  rcases h with rfl | rfl | rfl | rfl | rfl | rfl | rfl | rfl
  all_goals (go_enter Tryz.func69, Tryz.ntmps69; go_wp2_with (first | (go_at_call 70; refine (RefEncode_any _ _ (by omega) (by omega)).mono ?_; rintro e w' ⟨rfl, hb⟩) | go_in))
  all_goals (go_ret; exact ⟨rfl, by first | assumption | exact Below.refl _ _⟩)
set_option maxHeartbeats 8000000 in
set_option maxRecDepth 100000 in
theorem RefPlain_2_1 (r : Int) (w : World) (h : r ∈ cap_2_1) :
    Calls Tryz.prog 69 #[.int .i32 r] w fun e w' => e = .returned (.string (pln r)) ∧ Below w.heap.size w w' := by
  simp only [cap_2_1, List.mem_cons, List.not_mem_nil, or_false] at h
  rcases h with rfl | rfl | rfl | rfl | rfl | rfl | rfl | rfl
  all_goals (go_enter Tryz.func69, Tryz.ntmps69; go_wp2_with (first | (go_at_call 70; refine (RefEncode_any _ _ (by omega) (by omega)).mono ?_; rintro e w' ⟨rfl, hb⟩) | go_in))
  all_goals (go_ret; exact ⟨rfl, by first | assumption | exact Below.refl _ _⟩)
set_option maxHeartbeats 8000000 in
set_option maxRecDepth 100000 in
theorem RefPlain_2_2 (r : Int) (w : World) (h : r ∈ cap_2_2) :
    Calls Tryz.prog 69 #[.int .i32 r] w fun e w' => e = .returned (.string (pln r)) ∧ Below w.heap.size w w' := by
  simp only [cap_2_2, List.mem_cons, List.not_mem_nil, or_false] at h
  rcases h with rfl | rfl | rfl | rfl | rfl | rfl | rfl | rfl
  all_goals (go_enter Tryz.func69, Tryz.ntmps69; go_wp2_with (first | (go_at_call 70; refine (RefEncode_any _ _ (by omega) (by omega)).mono ?_; rintro e w' ⟨rfl, hb⟩) | go_in))
  all_goals (go_ret; exact ⟨rfl, by first | assumption | exact Below.refl _ _⟩)
set_option maxHeartbeats 8000000 in
set_option maxRecDepth 100000 in
theorem RefPlain_2_3 (r : Int) (w : World) (h : r ∈ cap_2_3) :
    Calls Tryz.prog 69 #[.int .i32 r] w fun e w' => e = .returned (.string (pln r)) ∧ Below w.heap.size w w' := by
  simp only [cap_2_3, List.mem_cons, List.not_mem_nil, or_false] at h
  rcases h with rfl
  all_goals (go_enter Tryz.func69, Tryz.ntmps69; go_wp2_with (first | (go_at_call 70; refine (RefEncode_any _ _ (by omega) (by omega)).mono ?_; rintro e w' ⟨rfl, hb⟩) | go_in))
  all_goals (go_ret; exact ⟨rfl, by first | assumption | exact Below.refl _ _⟩)
end Go.Proofs.YtbjgfjmknnbahaaGreatDoor

/- Walks of rebus/rebusref02.Plain at single runes. Printed by wip/gen/gen_plain.py. -/
set_option linter.unusedVariables false
set_option linter.unusedSimpArgs false
namespace Go.Proofs.YtbjgfjmknnbahaaGreatDoor
open Go.RowKit

set_option maxHeartbeats 8000000 in
set_option maxRecDepth 100000 in
theorem RefPlain_3_0 (r : Int) (w : World) (h : r ∈ cap_3_0) :
    Calls Tryz.prog 69 #[.int .i32 r] w fun e w' => e = .returned (.string (pln r)) ∧ Below w.heap.size w w' := by
  simp only [cap_3_0, List.mem_cons, List.not_mem_nil, or_false] at h
  rcases h with rfl | rfl | rfl | rfl | rfl | rfl | rfl | rfl
  all_goals (go_enter Tryz.func69, Tryz.ntmps69; go_wp2_with (first | (go_at_call 70; refine (RefEncode_any _ _ (by omega) (by omega)).mono ?_; rintro e w' ⟨rfl, hb⟩) | go_in))
  all_goals (go_ret; exact ⟨rfl, by first | assumption | exact Below.refl _ _⟩)
set_option maxHeartbeats 8000000 in
set_option maxRecDepth 100000 in
theorem RefPlain_3_1 (r : Int) (w : World) (h : r ∈ cap_3_1) :
    Calls Tryz.prog 69 #[.int .i32 r] w fun e w' => e = .returned (.string (pln r)) ∧ Below w.heap.size w w' := by
  simp only [cap_3_1, List.mem_cons, List.not_mem_nil, or_false] at h
  rcases h with rfl | rfl | rfl | rfl | rfl | rfl | rfl | rfl
  all_goals (go_enter Tryz.func69, Tryz.ntmps69; go_wp2_with (first | (go_at_call 70; refine (RefEncode_any _ _ (by omega) (by omega)).mono ?_; rintro e w' ⟨rfl, hb⟩) | go_in))
  all_goals (go_ret; exact ⟨rfl, by first | assumption | exact Below.refl _ _⟩)
set_option maxHeartbeats 8000000 in
set_option maxRecDepth 100000 in
theorem RefPlain_3_2 (r : Int) (w : World) (h : r ∈ cap_3_2) :
    Calls Tryz.prog 69 #[.int .i32 r] w fun e w' => e = .returned (.string (pln r)) ∧ Below w.heap.size w w' := by
  simp only [cap_3_2, List.mem_cons, List.not_mem_nil, or_false] at h
  rcases h with rfl | rfl | rfl | rfl | rfl | rfl | rfl | rfl
  all_goals (go_enter Tryz.func69, Tryz.ntmps69; go_wp2_with (first | (go_at_call 70; refine (RefEncode_any _ _ (by omega) (by omega)).mono ?_; rintro e w' ⟨rfl, hb⟩) | go_in))
  all_goals (go_ret; exact ⟨rfl, by first | assumption | exact Below.refl _ _⟩)
end Go.Proofs.YtbjgfjmknnbahaaGreatDoor

/- Contracts: fold.Plain and rebusref02.Plain at every capital. -/
set_option linter.unusedVariables false
set_option linter.unusedSimpArgs false
namespace Go.Proofs.YtbjgfjmknnbahaaGreatDoor
open Go.RowKit

set_option maxHeartbeats 4000000 in
set_option maxRecDepth 100000 in
theorem Plain_out (r : Int) (w : World) (hl : -2147483648 ≤ r) (hr : r ≤ 2147483647) (h : r < 192 ∨ 381 < r) :
    Calls Tryz.prog 50 #[.int .i32 r] w fun e w' => e = .returned (.string (pln r)) ∧ w = w' := by
  rw [pln_out h]
  rcases h with h | h
  all_goals (
    go_enter Tryz.func50, Tryz.ntmps50
    go_wp2_with (go_at_call 83; refine (Encode_any _ _ hl hr).mono ?_; rintro e w' ⟨rfl, rfl⟩)
    go_ret
    exact ⟨rfl, rfl⟩)
set_option maxHeartbeats 4000000 in
set_option maxRecDepth 100000 in
theorem RefPlain_out (r : Int) (w : World) (hl : -2147483648 ≤ r) (hr : r ≤ 2147483647) (h : r < 192 ∨ 381 < r) :
    Calls Tryz.prog 69 #[.int .i32 r] w fun e w' => e = .returned (.string (pln r)) ∧ Below w.heap.size w w' := by
  rw [pln_out h]
  rcases h with h | h
  all_goals (
    go_enter Tryz.func69, Tryz.ntmps69
    go_wp2_with (first | (go_at_call 70; refine (RefEncode_any _ _ hl hr).mono ?_; rintro e w' ⟨rfl, hb⟩) | go_in)
    go_ret
    exact ⟨rfl, hb⟩)
/-- fold.Plain. -/
theorem Plain_any (r : Int) (w : World) (hl : -2147483648 ≤ r) (hr : r ≤ 2147483647) (hu : upr r = r) :
    Calls Tryz.prog 50 #[.int .i32 r] w fun e w' => e = .returned (.string (pln r)) ∧ w = w' := by
  by_cases h : r < 192 ∨ 381 < r
  · exact Plain_out r w hl hr h
  · have hc := capital_cases hu (by omega) (by omega)
    simp only [capVals, List.mem_append] at hc
    rcases hc with (((((((((((((h | h) | h) | h) | h) | h) | h) | h) | h) | h) | h) | h) | h) | h) | h
    · exact Plain_0_0 r w h
    · exact Plain_0_1 r w h
    · exact Plain_0_2 r w h
    · exact Plain_0_3 r w h
    · exact Plain_1_0 r w h
    · exact Plain_1_1 r w h
    · exact Plain_1_2 r w h
    · exact Plain_1_3 r w h
    · exact Plain_2_0 r w h
    · exact Plain_2_1 r w h
    · exact Plain_2_2 r w h
    · exact Plain_2_3 r w h
    · exact Plain_3_0 r w h
    · exact Plain_3_1 r w h
    · exact Plain_3_2 r w h
/-- rebusref02.Plain. -/
theorem RefPlain_any (r : Int) (w : World) (hl : -2147483648 ≤ r) (hr : r ≤ 2147483647) (hu : upr r = r) :
    Calls Tryz.prog 69 #[.int .i32 r] w fun e w' => e = .returned (.string (pln r)) ∧ Below w.heap.size w w' := by
  by_cases h : r < 192 ∨ 381 < r
  · exact RefPlain_out r w hl hr h
  · have hc := capital_cases hu (by omega) (by omega)
    simp only [capVals, List.mem_append] at hc
    rcases hc with (((((((((((((h | h) | h) | h) | h) | h) | h) | h) | h) | h) | h) | h) | h) | h) | h
    · exact RefPlain_0_0 r w h
    · exact RefPlain_0_1 r w h
    · exact RefPlain_0_2 r w h
    · exact RefPlain_0_3 r w h
    · exact RefPlain_1_0 r w h
    · exact RefPlain_1_1 r w h
    · exact RefPlain_1_2 r w h
    · exact RefPlain_1_3 r w h
    · exact RefPlain_2_0 r w h
    · exact RefPlain_2_1 r w h
    · exact RefPlain_2_2 r w h
    · exact RefPlain_2_3 r w h
    · exact RefPlain_3_0 r w h
    · exact RefPlain_3_1 r w h
    · exact RefPlain_3_2 r w h
end Go.Proofs.YtbjgfjmknnbahaaGreatDoor

/- Contracts: capitals of runes. -/
set_option linter.unusedVariables false
set_option linter.unusedSimpArgs false
namespace Go.Proofs.YtbjgfjmknnbahaaGreatDoor
open Go.RowKit

theorem andNot_one {r : Int} (h0 : 256 ≤ r) (h1 : r ≤ 375) : Go.bits .andNot .i32 r 1 = r - r % 2 := by
  have key : ∀ k : Fin 120, Go.bits .andNot .i32 (256 + (k.val : Int)) 1 = (256 + (k.val : Int)) - (256 + (k.val : Int)) % 2 := by decide +kernel
  obtain ⟨k, rfl⟩ : ∃ k : Nat, r = 256 + (k : Int) := ⟨(r - 256).toNat, by omega⟩
  exact key ⟨k, by omega⟩
theorem and_one {r : Int} (h0 : 313 ≤ r) (h1 : r ≤ 382) : Go.bits .and .i32 r 1 = r % 2 := by
  have key : ∀ k : Fin 70, Go.bits .and .i32 (313 + (k.val : Int)) 1 = (313 + (k.val : Int)) % 2 := by decide +kernel
  obtain ⟨k, rfl⟩ : ∃ k : Nat, r = 313 + (k : Int) := ⟨(r - 313).toNat, by omega⟩
  exact key ⟨k, by omega⟩
theorem upr_a {r : Int} (h : (97 ≤ r ∧ r ≤ 122) ∨ (224 ≤ r ∧ r ≤ 246) ∨ (248 ≤ r ∧ r ≤ 254) ∨ (945 ≤ r ∧ r ≤ 961) ∨ (963 ≤ r ∧ r ≤ 969) ∨ (1072 ≤ r ∧ r ≤ 1103)) : upr r = r - 32 := by
  unfold upr; repeat' split
  all_goals omega
theorem upr_b {r : Int} (h : 1104 ≤ r ∧ r ≤ 1119) : upr r = r - 80 := by
  unfold upr; repeat' split
  all_goals omega
theorem upr_c {r : Int} (h : (256 ≤ r ∧ r ≤ 304) ∨ (306 ≤ r ∧ r ≤ 311) ∨ (330 ≤ r ∧ r ≤ 375)) : upr r = r - r % 2 := by
  unfold upr; repeat' split
  all_goals omega
theorem upr_d {r : Int} (h : (313 ≤ r ∧ r ≤ 328) ∨ (377 ≤ r ∧ r ≤ 382)) : upr r = r - 1 + r % 2 := by
  unfold upr; repeat' split
  all_goals omega
theorem upr_e {r : Int} (h : r ≤ 96 ∨ (123 ≤ r ∧ r ≤ 223) ∨ r = 247 ∨ r = 305 ∨ r = 312 ∨ r = 329 ∨ r = 376 ∨ (383 ≤ r ∧ r ≤ 944) ∨ (970 ≤ r ∧ r ≤ 1071) ∨ 1120 ≤ r) : upr r = r := by
  unfold upr; repeat' split
  all_goals omega

set_option maxHeartbeats 4000000 in
set_option maxRecDepth 100000 in
theorem Upper_a (r : Int) (w : World) (h : (97 ≤ r ∧ r ≤ 122) ∨ (224 ≤ r ∧ r ≤ 246) ∨ (248 ≤ r ∧ r ≤ 254) ∨ (945 ≤ r ∧ r ≤ 961) ∨ (963 ≤ r ∧ r ≤ 969) ∨ (1072 ≤ r ∧ r ≤ 1103)) :
    Calls Tryz.prog 51 #[.int .i32 r] w fun e w' => e = .returned (.int .i32 (r - 32)) ∧ w = w' := by
  rcases h with ⟨h0, h1⟩ | ⟨h0, h1⟩ | ⟨h0, h1⟩ | ⟨h0, h1⟩ | ⟨h0, h1⟩ | ⟨h0, h1⟩
  all_goals (go_enter Tryz.func51, Tryz.ntmps51; go_wp2; go_ret; exact ⟨rfl, rfl⟩)
set_option maxHeartbeats 4000000 in
set_option maxRecDepth 100000 in
theorem Upper_b (r : Int) (w : World) (h : 1104 ≤ r ∧ r ≤ 1119) :
    Calls Tryz.prog 51 #[.int .i32 r] w fun e w' => e = .returned (.int .i32 (r - 80)) ∧ w = w' := by
  obtain ⟨h0, h1⟩ := h
  go_enter Tryz.func51, Tryz.ntmps51
  go_wp2
  go_ret
  exact ⟨rfl, rfl⟩
set_option maxHeartbeats 4000000 in
set_option maxRecDepth 100000 in
theorem Upper_c (r : Int) (w : World) (h : (256 ≤ r ∧ r ≤ 304) ∨ (306 ≤ r ∧ r ≤ 311) ∨ (330 ≤ r ∧ r ≤ 375)) :
    Calls Tryz.prog 51 #[.int .i32 r] w fun e w' => e = .returned (.int .i32 (r - r % 2)) ∧ w = w' := by
  have hb : Go.bits .andNot .i32 r 1 = r - r % 2 := andNot_one (by omega) (by omega)
  have HB := Lib.hid hb
  clear hb
  rcases h with ⟨h0, h1⟩ | ⟨h0, h1⟩ | ⟨h0, h1⟩
  all_goals (go_enter Tryz.func51, Tryz.ntmps51; go_wp2; go_ret; rw [← HB.out]; exact ⟨rfl, rfl⟩)
set_option maxHeartbeats 4000000 in
set_option maxRecDepth 100000 in
theorem Upper_d (r : Int) (w : World) (h : (313 ≤ r ∧ r ≤ 328) ∨ (377 ≤ r ∧ r ≤ 382)) :
    Calls Tryz.prog 51 #[.int .i32 r] w fun e w' => e = .returned (.int .i32 (r - 1 + r % 2)) ∧ w = w' := by
  have hb : Go.bits .and .i32 r 1 = r % 2 := and_one (by omega) (by omega)
  rcases h with ⟨h0, h1⟩ | ⟨h0, h1⟩
  all_goals (go_enter Tryz.func51, Tryz.ntmps51; go_wp2; go_ret; exact ⟨rfl, rfl⟩)
set_option maxHeartbeats 4000000 in
set_option maxRecDepth 100000 in
theorem Upper_e (r : Int) (w : World) (h : r ≤ 96 ∨ (123 ≤ r ∧ r ≤ 223) ∨ r = 247 ∨ r = 305 ∨ r = 312 ∨ r = 329 ∨ r = 376 ∨ (383 ≤ r ∧ r ≤ 944) ∨ (970 ≤ r ∧ r ≤ 1071) ∨ 1120 ≤ r) :
    Calls Tryz.prog 51 #[.int .i32 r] w fun e w' => e = .returned (.int .i32 r) ∧ w = w' := by
  rcases h with h0 | ⟨h0, h1⟩ | rfl | rfl | rfl | rfl | rfl | ⟨h0, h1⟩ | ⟨h0, h1⟩ | h0
  all_goals (go_enter Tryz.func51, Tryz.ntmps51; go_wp2; go_ret; exact ⟨rfl, rfl⟩)
set_option maxHeartbeats 4000000 in
set_option maxRecDepth 100000 in
theorem Upper_f (r : Int) (w : World) (h : r = 255 ∨ r = 962) :
    Calls Tryz.prog 51 #[.int .i32 r] w fun e w' => e = .returned (.int .i32 (upr r)) ∧ w = w' := by
  rcases h with rfl | rfl
  all_goals (go_enter Tryz.func51, Tryz.ntmps51; go_wp2; go_ret; exact ⟨rfl, rfl⟩)
/-- fold.Upper. -/
theorem Upper_any (r : Int) (w : World) : Calls Tryz.prog 51 #[.int .i32 r] w fun e w' => e = .returned (.int .i32 (upr r)) ∧ w = w' := by
  by_cases ha : (97 ≤ r ∧ r ≤ 122) ∨ (224 ≤ r ∧ r ≤ 246) ∨ (248 ≤ r ∧ r ≤ 254) ∨ (945 ≤ r ∧ r ≤ 961) ∨ (963 ≤ r ∧ r ≤ 969) ∨ (1072 ≤ r ∧ r ≤ 1103)
  · rw [upr_a ha]; exact Upper_a r w ha
  by_cases hb : 1104 ≤ r ∧ r ≤ 1119
  · rw [upr_b hb]; exact Upper_b r w hb
  by_cases hc : (256 ≤ r ∧ r ≤ 304) ∨ (306 ≤ r ∧ r ≤ 311) ∨ (330 ≤ r ∧ r ≤ 375)
  · rw [upr_c hc]; exact Upper_c r w hc
  by_cases hd : (313 ≤ r ∧ r ≤ 328) ∨ (377 ≤ r ∧ r ≤ 382)
  · rw [upr_d hd]; exact Upper_d r w hd
  by_cases he : r ≤ 96 ∨ (123 ≤ r ∧ r ≤ 223) ∨ r = 247 ∨ r = 305 ∨ r = 312 ∨ r = 329 ∨ r = 376 ∨ (383 ≤ r ∧ r ≤ 944) ∨ (970 ≤ r ∧ r ≤ 1071) ∨ 1120 ≤ r
  · rw [upr_e he]; exact Upper_e r w he
  exact Upper_f r w (by omega)
end Go.Proofs.YtbjgfjmknnbahaaGreatDoor

/- Shelf structures laid over this seat, by names (printed by wip/gen/gen_lay.py). -/
set_option linter.unusedVariables false
set_option linter.unusedSimpArgs false
namespace Go.Proofs.YtbjgfjmknnbahaaGreatDoor
open Go.Shelf Go.RowKit

def renLayB : Go.Shelf.Ren := ⟨fun | 166 => 49 | 167 => 57 | 168 => 52 | 169 => 53 | 240 => 82 | 242 => 84 | 276 => 99 | 278 => 100 | n => n, fun | 0 => 0 | 3 => 3 | 4 => 4 | 5 => 5 | 9 => 9 | 20 => 20 | 21 => 21 | 37 => 72 | 46 => 126 | 51 => 123 | 70 => 71 | 72 => 74 | 75 => 79 | 80 => 85 | 127 => 107 | 164 => 121 | n => n, fun n => n⟩
theorem laysLayB_Lays_n166 : Lays.n166 Tryz.prog renLayB := {
  mixed := by kernel_rfl,
  f166 := Tryz.func49.trans (congrArg some (by kernel_rfl)),
  f240 := Tryz.func82.trans (congrArg some (by kernel_rfl)),
  f276 := Tryz.func99.trans (congrArg some (by kernel_rfl)),
  t0 := Tryz.underlying0,
  a0 := Tryz.isAgg0,
  z0 := Tryz.sizeOf0,
  v0 := Tryz.zeroValue0,
  t3 := Tryz.underlying3,
  a3 := Tryz.isAgg3,
  z3 := Tryz.sizeOf3,
  v3 := Tryz.zeroValue3,
  t4 := Tryz.underlying4,
  a4 := Tryz.isAgg4,
  z4 := Tryz.sizeOf4,
  v4 := Tryz.zeroValue4,
  t9 := Tryz.underlying9,
  a9 := Tryz.isAgg9,
  z9 := Tryz.sizeOf9,
  v9 := Tryz.zeroValue9,
  t20 := Tryz.underlying20,
  a20 := Tryz.isAgg20,
  z20 := Tryz.sizeOf20,
  v20 := Tryz.zeroValue20,
  t37 := Tryz.underlying72,
  a37 := Tryz.isAgg72,
  z37 := Tryz.sizeOf72,
  v37 := Tryz.zeroValue72,
  t70 := Tryz.underlying71,
  a70 := Tryz.isAgg71,
  z70 := Tryz.sizeOf71,
  v70 := Tryz.zeroValue71,
  t72 := Tryz.underlying74,
  a72 := Tryz.isAgg74,
  z72 := Tryz.sizeOf74,
  v72 := Tryz.zeroValue74,
  t75 := Tryz.underlying79,
  a75 := Tryz.isAgg79,
  z75 := Tryz.sizeOf79,
  v75 := Tryz.zeroValue79,
  t164 := Tryz.underlying121,
  a164 := Tryz.isAgg121,
  z164 := Tryz.sizeOf121,
  v164 := Tryz.zeroValue121 }
theorem laysLayB_Lays_n167 : Lays.n167 Tryz.prog renLayB := {
  mixed := by kernel_rfl,
  f167 := Tryz.func57.trans (congrArg some (by kernel_rfl)),
  f240 := Tryz.func82.trans (congrArg some (by kernel_rfl)),
  f276 := Tryz.func99.trans (congrArg some (by kernel_rfl)),
  t0 := Tryz.underlying0,
  a0 := Tryz.isAgg0,
  z0 := Tryz.sizeOf0,
  v0 := Tryz.zeroValue0,
  t4 := Tryz.underlying4,
  a4 := Tryz.isAgg4,
  z4 := Tryz.sizeOf4,
  v4 := Tryz.zeroValue4,
  t5 := Tryz.underlying5,
  a5 := Tryz.isAgg5,
  z5 := Tryz.sizeOf5,
  v5 := Tryz.zeroValue5,
  t9 := Tryz.underlying9,
  a9 := Tryz.isAgg9,
  z9 := Tryz.sizeOf9,
  v9 := Tryz.zeroValue9,
  t20 := Tryz.underlying20,
  a20 := Tryz.isAgg20,
  z20 := Tryz.sizeOf20,
  v20 := Tryz.zeroValue20,
  t37 := Tryz.underlying72,
  a37 := Tryz.isAgg72,
  z37 := Tryz.sizeOf72,
  v37 := Tryz.zeroValue72,
  t70 := Tryz.underlying71,
  a70 := Tryz.isAgg71,
  z70 := Tryz.sizeOf71,
  v70 := Tryz.zeroValue71,
  t72 := Tryz.underlying74,
  a72 := Tryz.isAgg74,
  z72 := Tryz.sizeOf74,
  v72 := Tryz.zeroValue74,
  t75 := Tryz.underlying79,
  a75 := Tryz.isAgg79,
  z75 := Tryz.sizeOf79,
  v75 := Tryz.zeroValue79,
  t164 := Tryz.underlying121,
  a164 := Tryz.isAgg121,
  z164 := Tryz.sizeOf121,
  v164 := Tryz.zeroValue121 }
theorem laysLayB_Lays_n168 : Lays.n168 Tryz.prog renLayB := {
  mixed := by kernel_rfl,
  f168 := Tryz.func52.trans (congrArg some (by kernel_rfl)),
  f240 := Tryz.func82.trans (congrArg some (by kernel_rfl)),
  f242 := Tryz.func84.trans (congrArg some (by kernel_rfl)),
  f276 := Tryz.func99.trans (congrArg some (by kernel_rfl)),
  f278 := Tryz.func100.trans (congrArg some (by kernel_rfl)),
  t0 := Tryz.underlying0,
  a0 := Tryz.isAgg0,
  z0 := Tryz.sizeOf0,
  v0 := Tryz.zeroValue0,
  t3 := Tryz.underlying3,
  a3 := Tryz.isAgg3,
  z3 := Tryz.sizeOf3,
  v3 := Tryz.zeroValue3,
  t4 := Tryz.underlying4,
  a4 := Tryz.isAgg4,
  z4 := Tryz.sizeOf4,
  v4 := Tryz.zeroValue4,
  t5 := Tryz.underlying5,
  a5 := Tryz.isAgg5,
  z5 := Tryz.sizeOf5,
  v5 := Tryz.zeroValue5,
  t9 := Tryz.underlying9,
  a9 := Tryz.isAgg9,
  z9 := Tryz.sizeOf9,
  v9 := Tryz.zeroValue9,
  t20 := Tryz.underlying20,
  a20 := Tryz.isAgg20,
  z20 := Tryz.sizeOf20,
  v20 := Tryz.zeroValue20,
  t21 := Tryz.underlying21,
  a21 := Tryz.isAgg21,
  z21 := Tryz.sizeOf21,
  v21 := Tryz.zeroValue21,
  t37 := Tryz.underlying72,
  a37 := Tryz.isAgg72,
  z37 := Tryz.sizeOf72,
  v37 := Tryz.zeroValue72,
  t46 := Tryz.underlying126,
  a46 := Tryz.isAgg126,
  z46 := Tryz.sizeOf126,
  v46 := Tryz.zeroValue126,
  t51 := Tryz.underlying123,
  a51 := Tryz.isAgg123,
  z51 := Tryz.sizeOf123,
  v51 := Tryz.zeroValue123,
  t70 := Tryz.underlying71,
  a70 := Tryz.isAgg71,
  z70 := Tryz.sizeOf71,
  v70 := Tryz.zeroValue71,
  t72 := Tryz.underlying74,
  a72 := Tryz.isAgg74,
  z72 := Tryz.sizeOf74,
  v72 := Tryz.zeroValue74,
  t75 := Tryz.underlying79,
  a75 := Tryz.isAgg79,
  z75 := Tryz.sizeOf79,
  v75 := Tryz.zeroValue79,
  t164 := Tryz.underlying121,
  a164 := Tryz.isAgg121,
  z164 := Tryz.sizeOf121,
  v164 := Tryz.zeroValue121 }
theorem laysLayB_Lays_n169 : Lays.n169 Tryz.prog renLayB := {
  mixed := by kernel_rfl,
  f169 := Tryz.func53.trans (congrArg some (by kernel_rfl)),
  t0 := Tryz.underlying0,
  a0 := Tryz.isAgg0,
  z0 := Tryz.sizeOf0,
  v0 := Tryz.zeroValue0,
  t3 := Tryz.underlying3,
  a3 := Tryz.isAgg3,
  z3 := Tryz.sizeOf3,
  v3 := Tryz.zeroValue3,
  t9 := Tryz.underlying9,
  a9 := Tryz.isAgg9,
  z9 := Tryz.sizeOf9,
  v9 := Tryz.zeroValue9,
  t37 := Tryz.underlying72,
  a37 := Tryz.isAgg72,
  z37 := Tryz.sizeOf72,
  v37 := Tryz.zeroValue72,
  t70 := Tryz.underlying71,
  a70 := Tryz.isAgg71,
  z70 := Tryz.sizeOf71,
  v70 := Tryz.zeroValue71,
  t72 := Tryz.underlying74,
  a72 := Tryz.isAgg74,
  z72 := Tryz.sizeOf74,
  v72 := Tryz.zeroValue74,
  t127 := Tryz.underlying107,
  a127 := Tryz.isAgg107,
  z127 := Tryz.sizeOf107,
  v127 := Tryz.zeroValue107 }
theorem extraLayB : Go.Proofs.Builder.Extra Tryz.prog renLayB := {
  sizeBuilder := by kernel_rfl, liesBuilder := by kernel_rfl, t5 := Tryz.underlying5, a5 := Tryz.isAgg5, z5 := Tryz.sizeOf5, v5 := Tryz.zeroValue5,
  infoByte := by kernel_rfl, cellsByte := by kernel_rfl, sizeByte := by kernel_rfl, neB5 := by decide }
/-- (*strings.Builder).WriteString. -/
theorem WriteString_any (B b : Nat) (bs : List Value) (s : ByteArray) (w : World) (h : Lib.IsBuilderF 74 5 B b bs w) (hlen : bs.length + s.size ≤ 140737488355328) (hBw : B ≤ w.heap.size) :
    Calls Tryz.prog 49 #[.pointer (some ⟨b, 0, none⟩), .string s] w fun e w' => e = .returned (.tuple #[.int .i64 s.size, .nilIface]) ∧ (Lib.BuilderAtF 74 5 B b (.pointer (some ⟨b, 0, none⟩)) (bs ++ Lib.strCells s) w' ∧ Below B w w' ∧ Lib.OthersKept 5 (some b) w w') :=
  Any.Builder_WriteString_k laysLayB_Lays_n166 extraLayB B b bs s w h hlen hBw
/-- (*strings.Builder).WriteByte. -/
theorem WriteByte_any (B b : Nat) (bs : List Value) (c : Int) (w : World) (h : Lib.IsBuilderF 74 5 B b bs w) (hlen : bs.length + 1 ≤ 140737488355328) (hBw : B ≤ w.heap.size) :
    Calls Tryz.prog 57 #[.pointer (some ⟨b, 0, none⟩), .int .u8 c] w fun e w' => e = .returned .nilIface ∧ (Lib.BuilderAtF 74 5 B b (.pointer (some ⟨b, 0, none⟩)) (bs ++ [.int .u8 c]) w' ∧ Below B w w' ∧ Lib.OthersKept 5 (some b) w w') :=
  Any.Builder_WriteByte_k laysLayB_Lays_n167 extraLayB B b bs c w h hlen hBw
/-- (*strings.Builder).WriteRune. -/
theorem WriteRune_any (B b : Nat) (bs : List Value) (r : Int) (hl : -2147483648 ≤ r) (hr : r ≤ 2147483647) (w : World) (h : Lib.IsBuilderF 74 5 B b bs w) (hlen : bs.length + 4 ≤ 140737488355328) (hBw : B ≤ w.heap.size) :
    Calls Tryz.prog 52 #[.pointer (some ⟨b, 0, none⟩), .int .i32 r] w fun e w' => e = .returned (.tuple #[.int .i64 (Lib.runeCells r).length, .nilIface]) ∧ (Lib.BuilderAtF 74 5 B b (.pointer (some ⟨b, 0, none⟩)) (bs ++ Lib.runeCells r) w' ∧ Below B w w' ∧ Lib.OthersKept 5 (some b) w w') :=
  Any.Builder_WriteRune_k laysLayB_Lays_n168 extraLayB B b bs r hl hr w h hlen hBw
/-- (*strings.Builder).String. -/
theorem BString_any (B b : Nat) (l : List UInt8) (w : World) (h : Lib.IsBuilderF 74 5 B b (Lib.byteCells l) w) (hBw : B ≤ w.heap.size) :
    Calls Tryz.prog 53 #[.pointer (some ⟨b, 0, none⟩)] w fun e w' => e = .returned (.string ⟨l.toArray⟩) ∧ (Lib.IsBuilderF 74 5 B b (Lib.byteCells l) w' ∧ Below B w w' ∧ Lib.OthersKept 5 (some b) w w') :=
  Any.Builder_String_any_k laysLayB_Lays_n169 extraLayB B b l w h hBw
end Go.Proofs.YtbjgfjmknnbahaaGreatDoor

/- Words on builders: what keeps them. -/
set_option linter.unusedVariables false
set_option linter.unusedSimpArgs false
namespace Go.Proofs.YtbjgfjmknnbahaaGreatDoor
open Go.RowKit

theorem keeps_of_builder {e b : Nat} {W W' : World} (h : Lib.OthersKept e (some b) W W') (hb : ∃ o : Obj, W.heap[b]? = some o ∧ o.isCells = true) (hs : W.heap.size ≤ W'.heap.size) : KeepsOthers W W' :=
  ⟨hs, fun k o hk ho => h k o hk (fun e1 => by
    obtain ⟨o', ho', hc⟩ := hb
    injection e1 with e1
    subst e1
    rw [hk] at ho'
    injection ho' with ho'
    subst ho'
    rw [ho] at hc
    cases hc) (fun c fz e1 => by subst e1; simp [Obj.isCells] at ho)⟩
/-- Every block of cells stands as it stood. -/
def KeepsCells (W W' : World) : Prop := ∀ (k : Nat) (o : Obj), W.heap[k]? = some o → o.isCells = true → W'.heap[k]? = some o
theorem keepsCells_grown {W W' : World} {row : Option Nat} (hg : W.grownBy W' row) (hr : ∀ r, row = some r → ∃ o : Obj, W.heap[r]? = some o ∧ o.isCells = false) : KeepsCells W W' :=
  fun k o hk hc => (grownBy_keeps_cells hg hr hk hc).trans hk
theorem BuilderAtF_keep {T e : TypeId} {B b : Nat} {p : Value} {bs : List Value} {w w' : World} (h : Lib.BuilderAtF T e B b p bs w) (hk : KeepsCells w w') : Lib.BuilderAtF T e B b p bs w' := by
  obtain ⟨hB, v, hb, hown, hne⟩ := h
  refine ⟨hB, v, hk _ _ hb rfl, ⟨hown.1, ?_⟩, hne⟩
  rcases hown.2 with hn | ⟨g, cap, cur, fz, hv, hbg, hg, rest⟩
  · exact .inl hn
  · exact .inr ⟨g, cap, cur, fz, hv, hbg, hk _ _ hg rfl, rest⟩
theorem IsBuilderF_keep {T e : TypeId} {B b : Nat} {bs : List Value} {w w' : World} (h : Lib.IsBuilderF T e B b bs w) (hk : KeepsCells w w') : Lib.IsBuilderF T e B b bs w' :=
  h.elim (fun x => .inl (BuilderAtF_keep x hk)) (fun x => .inr (BuilderAtF_keep x hk))
theorem IsBuilderF_cells {T e : TypeId} {B b : Nat} {bs : List Value} {w : World} (h : Lib.IsBuilderF T e B b bs w) : ∃ o : Obj, w.heap[b]? = some o ∧ o.isCells = true := by
  rcases h with ⟨_, v, hb, _⟩ | ⟨_, v, hb, _⟩
  · exact ⟨_, hb, rfl⟩
  · exact ⟨_, hb, rfl⟩
theorem strCells_append (a b : ByteArray) : Lib.strCells (a ++ b) = Lib.strCells a ++ Lib.strCells b := by simp [Lib.strCells]
theorem bytes_back (s : ByteArray) : (⟨s.data.toList.toArray⟩ : ByteArray) = s := by cases s; simp
theorem strCells_empty : Lib.strCells ByteArray.empty = [] := rfl
theorem builder_lower {T e : TypeId} {B B' b : Nat} {bs : List Value} {w : World} (h : Lib.IsBuilderF T e B b bs w) (hB' : B' ≤ B) : Lib.IsBuilderF T e B' b bs w := by
  rcases h with ⟨hB, v, hb, hown, hne⟩ | ⟨hB, v, hb, hown, hne⟩
  · refine .inl ⟨Nat.le_trans hB' hB, v, hb, ⟨hown.1, ?_⟩, hne⟩
    rcases hown.2 with hn | ⟨g, cap, cur, fz, hv, hbg, rest⟩
    · exact .inl hn
    · exact .inr ⟨g, cap, cur, fz, hv, Nat.le_trans hB' hbg, rest⟩
  · refine .inr ⟨Nat.le_trans hB' hB, v, hb, ⟨hown.1, ?_⟩, hne⟩
    rcases hown.2 with hn | ⟨g, cap, cur, fz, hv, hbg, rest⟩
    · exact .inl hn
    · exact .inr ⟨g, cap, cur, fz, hv, Nat.le_trans hB' hbg, rest⟩
end Go.Proofs.YtbjgfjmknnbahaaGreatDoor

/- Contract: fold.Fold. -/
set_option linter.unusedVariables false
set_option linter.unusedSimpArgs false
namespace Go.Proofs.YtbjgfjmknnbahaaGreatDoor
open Go.RowKit Go.Shelf
attribute [local go_sem] Oper.semAt_some

theorem encode_bytes (r : Int) : Utf8.encode r = ⟨(Lib.encodeRune r).toArray⟩ := by
  have key : ∀ xs : List Int, Lib.encodeRuneZ r = xs → Utf8.encode r = strOfNums xs → Utf8.encode r = ⟨(Lib.encodeRune r).toArray⟩ := fun xs h1 h2 => by
    rw [h2]
    unfold Lib.encodeRune
    rw [h1]
    rfl
  by_cases hb : r < 0 ∨ 1114111 < r ∨ (55296 ≤ r ∧ r ≤ 57343)
  · exact key _ (Lib.encodeRuneZ_bad (by omega)) (enc_bad hb)
  by_cases h1 : r < 128
  · exact key _ (Lib.encodeRuneZ_one (by omega) (by omega)) (enc_1 (by omega) h1)
  by_cases h2 : r < 2048
  · exact key _ (Lib.encodeRuneZ_two (by omega) (by omega)) (enc_2 (by omega) h2)
  by_cases h3 : r < 65536
  · exact key _ (Lib.encodeRuneZ_three (by omega)) (enc_3 (by omega) h3 (by omega))
  · exact key _ (Lib.encodeRuneZ_four (by omega) (by omega)) (enc_4 (by omega) (by omega))
theorem strCells_encode (r : Int) : Lib.strCells (Utf8.encode r) = Lib.runeCells r := by
  rw [encode_bytes]
  exact (Lib.strCells_toArray _).trans (Lib.byteCells_encodeRune r)

set_option maxHeartbeats 1000000 in
theorem AllMk_any (s : ByteArray) (w : World) : Calls Tryz.prog 47 #[.string s] w fun e w' => e = .returned (.func (.func 80) #[] #[.pointer (some ⟨w.heap.size, 0, none⟩)]) ∧ w.alloc (.cells #[.string s] 9) = w' := by
  go_enter Tryz.func47, Tryz.ntmps47
  go_wp2
  go_ret
  exact ⟨rfl, rfl⟩

set_option maxHeartbeats 4000000 in
set_option maxRecDepth 100000 in
theorem Fold_any (s : ByteArray) (pl : Bool) (w : World) (hs : s.size ≤ 4294967296) :
    Calls Tryz.prog 17 #[.string s, .bool pl] w fun e w' => e = .returned (.string (foldT s pl)) ∧ Below w.heap.size w w' := by
  refine (callsIn_wide (n := 3)).1 ?_
  refine callsIn_of_wp_marks Tryz.func17 rfl trivial ?_ rfl
  simp only [Tryz.ntmps17, List.size_toArray, List.length_cons, List.length_nil, Nat.reduceAdd, Nat.reduceSub, Array.replicate_succ, Array.replicate_zero, List.push_toArray, List.append_toArray, List.nil_append, List.cons_append]
  gi_wp2_with (refine ⟨trivial, ?_⟩; gi_at_call 47; refine (callsIn_wide.2 (AllMk_any s _)).mono ?_; rintro e w' ⟨rfl, rfl⟩)
  obtain ⟨W0, hW0⟩ : ∃ W0, ((w.alloc (Obj.cells #[Value.bool pl] 4)).alloc (Obj.cells #[Value.pointer none, Value.slice none 0 0] 74)).alloc (Obj.cells #[Value.string s] 9) = W0 := ⟨_, rfl⟩
  have hsz : W0.heap.size = w.heap.size + 3 := by rw [← hW0]; simp
  have hB0 : Below w.heap.size w W0 := by rw [← hW0]; exact (((Below.refl _ w).alloc (Nat.le_refl _) _).alloc (by simp) _).alloc (by simp; omega) _
  have hbs : W0.cell? ⟨w.heap.size + 2, 0, none⟩ = some (.string s) := by
    rw [← hW0]
    have := Lib.cell_of_heap (heap_alloc_new ((w.alloc (Obj.cells #[Value.bool pl] 4)).alloc (Obj.cells #[Value.pointer none, Value.slice none 0 0] 74)) (Obj.cells #[Value.string s] 9)) 0
    simpa using this
  have hbp : W0.heap[w.heap.size]? = some (.cells #[.bool pl] 4 (0, 0)) := by
    rw [← hW0, Below.heap_alloc _ _ _ (by simp; omega), Below.heap_alloc _ _ _ (by simp)]
    exact heap_alloc_new _ _
  have hI0 : Lib.IsBuilderF 74 5 w.heap.size (w.heap.size + 1) [] W0 := by
    rw [← hW0]
    refine Lib.IsBuilderF.alloc ?_ _
    have := Lib.IsBuilderF.of (Lib.fresh_isBuilder 74 5 (w.alloc (Obj.cells #[Value.bool pl] 4)))
    rw [World.size_alloc] at this
    exact builder_lower this (by omega)
  rw [hW0]
  clear hW0
  refine wpIn_rangeFunc_ownF (α := PR s) rfl (by omega) (gf := 80) (lb := #[.pointer (some ⟨w.heap.size + 2, 0, none⟩)]) rfl trivial (enters_of Tryz.func80 (by kernel_rfl) rfl)
    (All_stops Fence.wide (3 - 1) trivial rfl (by omega) (w.heap.size + 2) s W0 hbs hs) walksK_t walksK_b (Below.refl _ _) (fun _ => rfl)
    (fun pre W => (Lib.IsBuilderF 74 5 w.heap.size (w.heap.size + 1) (Lib.strCells (foldL pl (pre.map (·.1.2)))) W ∧ W.heap[w.heap.size]? = some (.cells #[.bool pl] 4 (0, 0))) ∧ Below w.heap.size w W)
    (fun _ _ _ => False)
    (OwnFrom.and (Own.from (fun pre A B row hs hg hr => ⟨IsBuilderF_keep hs.1 (keepsCells_grown hg hr), keepsCells_grown hg hr _ _ hs.2 rfl⟩) _) (ownFrom_below (Nat.le_refl _) (by omega)))
    (fun _ _ _ _ _ hs _ _ => hs)
    ⟨⟨hI0, hbp⟩, hB0⟩
    (fun x => { tmps := #[.string s, .bool pl, undef, .pointer (some ⟨w.heap.size, 0, none⟩), .string { data := #[] }, .pointer (some ⟨w.heap.size + 1, 0, none⟩), undef, .int .i32 x.1.2, .string s, .func (.func 80) #[] #[.pointer (some ⟨w.heap.size + 1 + 1, 0, none⟩)], .int .i64 x.1.1, .int .i32 x.1.2, undef, undef, undef, undef, undef, undef, undef, undef, undef, undef, undef, undef, undef, undef], defers := [] }) ?assign ?body ?done ?stop
  case assign =>
    intro l x W K hK
    gi_wp2
    exact hK
  case body =>
    rintro l pre ⟨⟨p, r⟩, hxp, hxr⟩ W ⟨⟨hI, hp⟩, hB⟩ hlen
    dsimp only at hxp hxr ⊢
    have hcp : W.cell? ⟨w.heap.size, 0, none⟩ = some (.bool pl) := by rw [Lib.cell_of_heap hp]; rfl
    have hlW := hB.size
    have hbl : w.heap.size + 1 < W.heap.size := by
      obtain ⟨o, ho, _⟩ := IsBuilderF_cells hI
      exact (Array.getElem?_eq_some_iff.1 ho).1
    have hsl := foldL_size pl (pre.map (·.1.2))
    rw [List.length_map] at hsl
    have hsq := seqs_length s
    have hfin : Lib.strCells (foldL pl ((pre ++ [(⟨(p, r), hxp, hxr⟩ : PR s)]).map (fun x : PR s => x.1.2))) = Lib.strCells (foldL pl (pre.map (fun x : PR s => x.1.2))) ++ Lib.strCells (foldStep pl r) := by
      rw [List.map_append, foldL_append, strCells_append]
      simp [foldL]
    have Hfin := Lib.hid hfin
    clear hfin
    by_cases hc : cls r = 1
    · have hcb : (cls r != 1) = false := by simp [hc]
      have hb := upr_bound (r := (r : Int)) (by omega) (by omega)
      have hst : foldStep pl r = if pl then pln (upr r) else Utf8.encode (upr r) := by unfold foldStep; rw [if_pos hc]
      have Hst := Lib.hid hst
      clear hst hc
      cases pl with
      | true =>
        have hu := Lib.hid (upr_upr (r : Int))
        have hz := pln_size (upr r)
        gi_wp2_with (first
          | (refine ⟨trivial, ?_⟩; gi_at_call 48; refine (CallsIn.inRound l (callsIn_wide.2 (Class_any _ _ (by omega) (by omega)))).mono ?_; rintro e w' ⟨rfl, rfl⟩)
          | (refine ⟨trivial, ?_⟩; gi_at_call 51; refine (CallsIn.inRound l (callsIn_wide.2 (Upper_any _ _))).mono ?_; rintro e w' ⟨rfl, rfl⟩)
          | (refine ⟨trivial, ?_⟩; gi_at_call 50; refine (CallsIn.inRound l (callsIn_wide.2 (Plain_any _ _ (by omega) (by omega) hu.out))).mono ?_; rintro e w' ⟨rfl, rfl⟩)
          | (refine ⟨trivial, ?_⟩; gi_at_call 49; refine (CallsIn.inRound l (callsIn_wide.2 (WriteString_any w.heap.size (w.heap.size + 1) _ _ _ hI (by rw [Lib.strCells_length]; omega) (by omega)))).mono ?_; rintro e W1 ⟨rfl, h1, b1, k1⟩))
        have hko := keeps_of_builder k1 (IsBuilderF_cells hI) b1.size
        refine ⟨hko, hko.walks, ⟨?_, ?_⟩, hB.trans b1⟩
        · rw [Hfin.out, Hst.out]
          exact .inr h1
        · exact k1 _ _ hp (fun e => by injection e; omega) (fun c fz e => by injection e with _ e2 _; exact absurd e2 (by decide))
      | false =>
        have hz := enc_size (upr r)
        gi_wp2_with (first
          | (refine ⟨trivial, ?_⟩; gi_at_call 48; refine (CallsIn.inRound l (callsIn_wide.2 (Class_any _ _ (by omega) (by omega)))).mono ?_; rintro e w' ⟨rfl, rfl⟩)
          | (refine ⟨trivial, ?_⟩; gi_at_call 51; refine (CallsIn.inRound l (callsIn_wide.2 (Upper_any _ _))).mono ?_; rintro e w' ⟨rfl, rfl⟩)
          | (refine ⟨trivial, ?_⟩; gi_at_call 52; refine (CallsIn.inRound l (callsIn_wide.2 (WriteRune_any w.heap.size (w.heap.size + 1) _ _ (by omega) (by omega) _ hI (by rw [Lib.strCells_length]; omega) (by omega)))).mono ?_; rintro e W1 ⟨rfl, h1, b1, k1⟩))
        have hko := keeps_of_builder k1 (IsBuilderF_cells hI) b1.size
        refine ⟨hko, hko.walks, ⟨?_, ?_⟩, hB.trans b1⟩
        · rw [Hfin.out, Hst.out]
          have : Lib.strCells (Utf8.encode (upr r)) = Lib.runeCells (upr r) := strCells_encode _
          simp only [Bool.false_eq_true, if_false]
          rw [this]
          exact .inr h1
        · exact k1 _ _ hp (fun e => by injection e; omega) (fun c fz e => by injection e with _ e2 _; exact absurd e2 (by decide))
    · have hcb : (cls r != 1) = true := by simp [hc]
      have hst : foldStep pl r = ByteArray.empty := by unfold foldStep; rw [if_neg hc]
      have Hst := Lib.hid hst
      clear hst hc
      gi_wp2_with (refine ⟨trivial, ?_⟩; gi_at_call 48; refine (CallsIn.inRound l (callsIn_wide.2 (Class_any _ _ (by omega) (by omega)))).mono ?_; rintro e w' ⟨rfl, rfl⟩)
      refine ⟨KeepsOthers.refl _, KeepsWalks.refl _, ⟨?_, hp⟩, hB⟩
      rw [Hfin.out, Hst.out, strCells_empty, List.append_nil]
      exact hI
  case done =>
    rintro D xs W hD hx ⟨⟨hI, hp⟩, hB⟩ hK
    have hlW := hB.size
    have hr : xs.map (·.1.2) = runes s := by
      unfold runes
      rw [← hx, List.map_map]
      rfl
    rw [hr] at hI
    clear hx hr
    gi_wp2_with (refine ⟨trivial, ?_⟩; gi_at_call 53; refine (callsIn_wide.2 (BString_any w.heap.size (w.heap.size + 1) (foldL pl (runes s)).data.toList _ hI (by omega))).mono ?_; rintro e W1 ⟨rfl, h1, b1, k1⟩)
    have hK1 : W1.heap[D]? = some (.deferred (some [])) := k1 _ _ hK (fun e => by injection e; omega) (fun c fz e => by cases e)
    refine ⟨by simp, .inl ⟨_, _, rfl, run_takeDeferred hK1, ?_⟩⟩
    exact ⟨_, results_tmp rfl _ _ _, rfl, (hB.trans b1).trans (belowK_b (w := w) (Nat.le_refl _) W1 D _ _ (by omega) hK1 rfl rfl)⟩
  case stop =>
    rintro D c pre W hD hSp h hK
    exact h.elim
end Go.Proofs.YtbjgfjmknnbahaaGreatDoor

/- Contracts: clue.blank, clue.empty, fold.Words' predicate, clue.sum. -/
set_option linter.unusedVariables false
set_option linter.unusedSimpArgs false
namespace Go.Proofs.YtbjgfjmknnbahaaGreatDoor
open Go.RowKit

set_option maxRecDepth 100000 in
theorem Blank_any (r : Int) (w : World) (h0 : -2147483648 ≤ r) (h1 : r ≤ 2147483647) :
    Calls Tryz.prog 27 #[.int .i32 r] w fun e w' => e = .returned (.bool (decide (cls r = 3))) ∧ w = w' := by
  by_cases h : cls r = 3
  · rw [decide_eq_true h]
    have Hc := Lib.hid h
    clear h
    go_enter Tryz.func27, Tryz.ntmps27
    go_wp2_with (go_at_call 48; refine (Class_any _ _ h0 h1).mono ?_; rintro e w' ⟨rfl, rfl⟩; rw [Hc.out])
    go_ret
    exact ⟨rfl, rfl⟩
  · rw [decide_eq_false h]
    have hb : (cls r == 3) = false := by simp [h]
    clear h
    go_enter Tryz.func27, Tryz.ntmps27
    go_wp2_with (go_at_call 48; refine (Class_any _ _ h0 h1).mono ?_; rintro e w' ⟨rfl, rfl⟩)
    go_ret
    exact ⟨rfl, rfl⟩
set_option maxRecDepth 100000 in
theorem WordsPred_any (r : Int) (w : World) (h0 : -2147483648 ≤ r) (h1 : r ≤ 2147483647) :
    Calls Tryz.prog 56 #[.int .i32 r] w fun e w' => e = .returned (.bool (decide (cls r = 3))) ∧ w = w' := by
  by_cases h : cls r = 3
  · rw [decide_eq_true h]
    have Hc := Lib.hid h
    clear h
    go_enter Tryz.func56, Tryz.ntmps56
    go_wp2_with (go_at_call 48; refine (Class_any _ _ h0 h1).mono ?_; rintro e w' ⟨rfl, rfl⟩; rw [Hc.out])
    go_ret
    exact ⟨rfl, rfl⟩
  · rw [decide_eq_false h]
    have hb : (cls r == 3) = false := by simp [h]
    clear h
    go_enter Tryz.func56, Tryz.ntmps56
    go_wp2_with (go_at_call 48; refine (Class_any _ _ h0 h1).mono ?_; rintro e w' ⟨rfl, rfl⟩)
    go_ret
    exact ⟨rfl, rfl⟩
theorem toList_false {t : ByteArray} (h0 : t.size ≠ 0) : (t.toList == []) = false := by
  cases h1 : t.toList with
  | nil => exact absurd (by rw [Lib.toList_data] at h1; show t.data.size = 0; rw [← Array.length_toList, h1]; rfl) h0
  | cons a l => rfl
set_option maxRecDepth 100000 in
/-- clue.empty. -/
theorem Empty_any (s : ByteArray) (w : World) (hs : s.size ≤ 4294967296) :
    Calls Tryz.prog 31 #[.string s] w fun e w' => e = .returned (.bool (!neW s)) ∧ Below w.heap.size w w' := by
  cases h : neW s with
  | true =>
    have hf := toList_false (neW_true h)
    clear h
    go_enter Tryz.func31, Tryz.ntmps31
    go_wp2_with (go_at_call 17; refine (Fold_any s true _ hs).mono ?_; rintro e w2 ⟨rfl, hb2⟩)
    go_ret
    exact ⟨rfl, hb2⟩
  | false =>
    have hf := Lib.hid (neW_false h)
    clear h
    go_enter Tryz.func31, Tryz.ntmps31
    go_wp2_with (go_at_call 17; refine (Fold_any s true _ hs).mono ?_; rintro e w2 ⟨rfl, hb2⟩; rw [hf.out])
    go_ret
    exact ⟨rfl, hb2⟩
end Go.Proofs.YtbjgfjmknnbahaaGreatDoor

/- Contract: rebusref02.Upper. -/
set_option linter.unusedVariables false
set_option linter.unusedSimpArgs false
namespace Go.Proofs.YtbjgfjmknnbahaaGreatDoor
open Go.RowKit

theorem ret32 {a b : Int} (h : a = b) : Ending.returned (.int .i32 a) = Ending.returned (.int .i32 b) := by rw [h]
set_option maxHeartbeats 4000000 in
set_option maxRecDepth 100000 in
theorem RefUpper_any (r : Int) (w : World) (hl : -2147483648 ≤ r) (hr : r ≤ 2147483647) :
    Calls Tryz.prog 68 #[.int .i32 r] w fun e w' => e = .returned (.int .i32 (upr r)) ∧ w = w' := by
  by_cases ha : (97 ≤ r ∧ r ≤ 122) ∨ (224 ≤ r ∧ r ≤ 246) ∨ (248 ≤ r ∧ r ≤ 254) ∨ (945 ≤ r ∧ r ≤ 961) ∨ (963 ≤ r ∧ r ≤ 969) ∨ (1072 ≤ r ∧ r ≤ 1103)
  · rw [upr_a ha]
    rcases ha with ⟨h0, h1⟩ | ⟨h0, h1⟩ | ⟨h0, h1⟩ | ⟨h0, h1⟩ | ⟨h0, h1⟩ | ⟨h0, h1⟩
    all_goals (go_enter Tryz.func68, Tryz.ntmps68; go_wp2; go_ret; exact ⟨rfl, rfl⟩)
  by_cases hb : 1104 ≤ r ∧ r ≤ 1119
  · rw [upr_b hb]
    obtain ⟨h0, h1⟩ := hb
    clear ha
    go_enter Tryz.func68, Tryz.ntmps68
    go_wp2
    go_ret
    exact ⟨rfl, rfl⟩
  by_cases hc : (256 ≤ r ∧ r ≤ 304) ∨ (306 ≤ r ∧ r ≤ 311) ∨ (330 ≤ r ∧ r ≤ 375)
  · rw [upr_c hc]
    clear ha hb
    rcases hc with ⟨h0, h1⟩ | ⟨h0, h1⟩ | ⟨h0, h1⟩
    all_goals (
      go_enter Tryz.func68, Tryz.ntmps68
      go_wp2
      all_goals (
        go_ret
        refine ⟨ret32 ?_, rfl⟩
        go_light
        (try simp only [beq_iff_eq, beq_eq_false_iff_ne, ne_eq] at *) <;> omega))
  by_cases hd : (313 ≤ r ∧ r ≤ 328) ∨ (377 ≤ r ∧ r ≤ 382)
  · rw [upr_d hd]
    clear ha hb hc
    have hd' : (313 ≤ r ∧ r ≤ 328) ∨ r = 377 ∨ r = 378 ∨ r = 379 ∨ r = 380 ∨ r = 381 ∨ r = 382 := by omega
    clear hd
    rcases hd' with ⟨h0, h1⟩ | rfl | rfl | rfl | rfl | rfl | rfl
    all_goals (
      go_enter Tryz.func68, Tryz.ntmps68
      go_wp2
      all_goals (
        go_ret
        refine ⟨ret32 ?_, rfl⟩
        go_light
        (try simp only [beq_iff_eq, beq_eq_false_iff_ne, ne_eq] at *) <;> omega))
  by_cases he : r ≤ 96 ∨ (123 ≤ r ∧ r ≤ 223) ∨ r = 247 ∨ r = 305 ∨ r = 312 ∨ r = 329 ∨ r = 376 ∨ (383 ≤ r ∧ r ≤ 944) ∨ (970 ≤ r ∧ r ≤ 1071) ∨ 1120 ≤ r
  · rw [upr_e he]
    clear ha hb hc hd
    rcases he with h0 | ⟨h0, h1⟩ | rfl | rfl | rfl | rfl | rfl | ⟨h0, h1⟩ | ⟨h0, h1⟩ | h0
    all_goals (go_enter Tryz.func68, Tryz.ntmps68; go_wp2; go_ret; exact ⟨rfl, rfl⟩)
  · have hf : r = 255 ∨ r = 962 := by omega
    clear ha hb hc hd he
    rcases hf with rfl | rfl
    all_goals (go_enter Tryz.func68, Tryz.ntmps68; go_wp2; go_ret; exact ⟨rfl, rfl⟩)
end Go.Proofs.YtbjgfjmknnbahaaGreatDoor
