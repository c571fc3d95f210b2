/- Texts joined: RefFold, RefBlanks, IndexF, Odd, Apart, Delete, RefSame, RefOf. -/
import Derived.Test.YtbjgfjmknnbahaaGreatDoorR7
import Derived.Test.YtbjgfjmknnbahaaGreatDoorR3
import Derived.Test.YtbjgfjmknnbahaaGreatDoorR2
import Derived.Test.YtbjgfjmknnbahaaGreatDoorR1
import Derived.Conc.MuLone
import Derived.Laws.CopyOwn
import Derived.Laws.Tables
import Derived.Lib.SliceRun
import Derived.Lib.EndianMore
import Derived.Laws.OwnMore
import Derived.Test.YtbjgfjmknnbahaaGreatDoorR5
import Derived.Lib.AppendStr
import Derived.Lib.SlBytesRow
/- Contract: rebusref02.Fold. -/
set_option linter.unusedVariables false
set_option linter.unusedSimpArgs false
namespace Go.Proofs.YtbjgfjmknnbahaaGreatDoor
open Go.RowKit

theorem runes_le (s : ByteArray) : ∀ r ∈ runes s, r ≤ 1114111 := by
  have key : ∀ f pos, ∀ x ∈ seqFrom s f pos, x.2 ≤ 1114111 := by
    intro f
    induction f with
    | zero => intro pos x hx; simp [seqFrom] at hx
    | succ f ih =>
      intro pos x hx
      unfold seqFrom at hx
      split at hx
      · rcases List.mem_cons.1 hx with rfl | hx
        · exact rune_le s pos
        · exact ih _ x hx
      · simp at hx
  intro r hr
  obtain ⟨x, hx, rfl⟩ := List.mem_map.1 hr
  exact key _ _ x hx

set_option maxHeartbeats 4000000 in
set_option maxRecDepth 100000 in
theorem RefFold_L (s : ByteArray) (pl : Bool) (L : List Nat) (w : World) (hrl : L.length ≤ 4294967296) (hre : ∀ r ∈ L, r ≤ 1114111) (hR : ∀ W, Calls Tryz.prog 32 #[.string s] W fun e w' => Made W w' 21 1 L.length (L.map eR) e) :
    Calls Tryz.prog 37 #[.string s, .bool pl] w fun e w' => e = .returned (.string (foldL pl L)) ∧ Below w.heap.size w w' := by
  have HR := Lib.hid hR
  clear hR
  go_enter Tryz.func37, Tryz.ntmps37
  go_wp2_with (go_at_call 32; refine (HR.out _).mono ?_; rintro e w1 ⟨A, c, rfl, hnc, hcm, hown, hrd, hb1⟩)
  go_loopw [6, 7] (fun o i wr => ∃ (k : Nat) (out : ByteArray), i = .int .i64 k ∧ o = .string out ∧ k ≤ L.length ∧ out ++ foldL pl (L.drop k) = foldL pl L ∧ out.size ≤ 4 * k ∧ Rd wr 1 A L.length (L.map eR) ∧ Below w.heap.size w wr) (fun _ i _ => L.length - (intOf i).toNat)
  case atStart => exact ⟨0, ByteArray.empty, rfl, rfl, Nat.zero_le _, by simp, by simp, hrd, hb1⟩
  case round =>
    obtain ⟨k, out, rfl, rfl, hk, hacc, hos, hrd, hbw⟩ := hrel
    by_cases hlt : k < L.length
    · obtain ⟨b, o, x, rfl, hx, hc⟩ := hrd.at1 hlt
      have hxm := hre x (List.mem_of_getElem? hx)
      have hxb := upr_bound (r := (x : Int)) (by omega) (by omega)
      rw [drop_cons hx] at hacc
      simp only [foldL] at hacc
      rw [← ByteArray.append_assoc] at hacc
      by_cases hcl : cls x = 1
      · have hcb : (cls x != 1) = false := by simp [hcl]
        have hst : foldStep pl x = if pl then pln (upr x) else Utf8.encode (upr x) := by unfold foldStep; rw [if_pos hcl]
        rw [hst] at hacc
        have Hacc := Lib.hid hacc
        have hu := Lib.hid (upr_upr (x : Int))
        have hz := pln_size (upr x)
        have hz2 := enc_size (upr x)
        clear hacc hst hcl hx
        unfold eR at hc
        cases pl
        all_goals (
          go_wp2_with (first
            | (go_at_call 34; refine (RefClass_any _ _ (by omega) (by omega)).mono ?_; rintro e w' ⟨rfl, rfl⟩)
            | (go_at_call 68; refine (RefUpper_any _ _ (by omega) (by omega)).mono ?_; rintro e w' ⟨rfl, rfl⟩)
            | (go_at_call 69; refine (RefPlain_any _ _ (by omega) (by omega) hu.out).mono ?_; rintro e w2 ⟨rfl, hb2⟩)
            | (go_at_call 70; refine (RefEncode_any _ _ (by omega) (by omega)).mono ?_; rintro e w2 ⟨rfl, hb2⟩))
          go_roundw
          case rel => exact ⟨k + 1, _, by go_num, rfl, by omega, Hacc.out, by simp only [ByteArray.size_append, if_true, Bool.false_eq_true, if_false]; omega, hrd.keep hb2, below_then hbw hbw.size hb2⟩
          case measure => simp [intOf]; omega)
      · have hcb : (cls x != 1) = true := by simp [hcl]
        have hst : foldStep pl x = ByteArray.empty := by unfold foldStep; rw [if_neg hcl]
        rw [hst, ByteArray.append_empty] at hacc
        have Hacc := Lib.hid hacc
        clear hacc hst hcl hx
        unfold eR at hc
        go_wp2_with (go_at_call 34; refine (RefClass_any _ _ (by omega) (by omega)).mono ?_; rintro e w' ⟨rfl, rfl⟩)
        go_roundw
        case rel => exact ⟨k + 1, _, by go_num, rfl, by omega, Hacc.out, by omega, hrd, hbw⟩
        case measure => simp [intOf]; omega
    · rw [List.drop_of_length_le (by omega)] at hacc
      simp only [foldL, ByteArray.append_empty] at hacc
      have Hacc := Lib.hid hacc
      clear hacc
      go_wp2
      go_ret
      exact ⟨by rw [← Hacc.out]; rfl, hbw⟩
/-- rebusref02.Fold. -/
theorem RefFold_any (s : ByteArray) (pl : Bool) (w : World) (hs : s.size ≤ 4294967296) :
    Calls Tryz.prog 37 #[.string s, .bool pl] w fun e w' => e = .returned (.string (foldT s pl)) ∧ Below w.heap.size w w' :=
  RefFold_L s pl (runes s) w (Nat.le_trans (runes_length s) hs) (runes_le s) (fun W => RefRunes_any s W hs)
end Go.Proofs.YtbjgfjmknnbahaaGreatDoor

/- Contract: rebusref16.blanks: has a text a blank? -/
set_option linter.unusedVariables false
set_option linter.unusedSimpArgs false
namespace Go.Proofs.YtbjgfjmknnbahaaGreatDoor
open Go.RowKit

def anyBlank (l : List Nat) : Bool := l.any blankB
theorem anyBlank_false {l : List Nat} (h : ∀ r ∈ l, cls (r : Int) ≠ 3) : anyBlank l = false := by
  unfold anyBlank
  rw [List.any_eq_false]
  intro r hr
  simp [blankB_false (h r hr)]
theorem anyBlank_true {l : List Nat} {r : Nat} (h : r ∈ l) (hc : cls (r : Int) = 3) : anyBlank l = true := List.any_eq_true.2 ⟨r, h, blankB_true hc⟩

set_option maxHeartbeats 4000000 in
set_option maxRecDepth 100000 in
theorem RefBlanks_L (s : ByteArray) (L : List Nat) (w : World) (hrl : L.length ≤ 4294967296) (hre : ∀ r ∈ L, r ≤ 1114111) (hR : ∀ W, Calls Tryz.prog 32 #[.string s] W fun e w' => Made W w' 21 1 L.length (L.map eR) e) :
    Calls Tryz.prog 79 #[.string s] w fun e w' => e = .returned (.bool (anyBlank L)) ∧ Below w.heap.size w w' := by
  have HR := Lib.hid hR
  have HE := Lib.hid hre
  clear hR hre
  go_enter Tryz.func79, Tryz.ntmps79
  go_wp2_with (go_at_call 32; refine (HR.out _).mono ?_; rintro e w1 ⟨A, c, rfl, hnc, hcm, hown, hrd, hb1⟩)
  go_loopw [4] (fun i wr => ∃ (k : Nat), i = .int .i64 k ∧ k ≤ L.length ∧ (∀ j r, j < k → L[j]? = some r → cls (r : Int) ≠ 3) ∧ wr = w1) (fun i _ => L.length - (intOf i).toNat)
  case atStart => exact ⟨0, rfl, Nat.zero_le _, fun j r h => absurd h (Nat.not_lt_zero _), rfl⟩
  case round =>
    obtain ⟨k, rfl, hk, hno, rfl⟩ := hrel
    by_cases hlt : k < L.length
    · obtain ⟨b, o, x, rfl, hx, hc⟩ := hrd.at1 hlt
      have hxm := HE.out x (List.mem_of_getElem? hx)
      unfold eR at hc
      have HX := Lib.hid hx
      have HN := Lib.hid hno
      clear hx hno
      by_cases hcl : cls (x : Int) = 3
      · have Hc := Lib.hid hcl
        clear hcl
        go_wp2_with (go_at_call 34; refine (RefClass_any _ _ (by omega) (by omega)).mono ?_; rintro e w' ⟨rfl, rfl⟩; rw [Hc.out])
        go_ret
        exact ⟨by rw [anyBlank_true (List.mem_of_getElem? HX.out) Hc.out]; rfl, hb1⟩
      · have Hc := Lib.hid hcl
        have hcb : (cls (x : Int) == 3) = false := by simp [hcl]
        clear hcl
        go_wp2_with (go_at_call 34; refine (RefClass_any _ _ (by omega) (by omega)).mono ?_; rintro e w' ⟨rfl, rfl⟩)
        go_roundw
        case rel =>
          refine ⟨k + 1, by go_num, by omega, fun j r hj hr => ?_, trivial⟩
          rcases Nat.lt_or_ge j k with h | h
          · exact HN.out j r h hr
          · obtain rfl : j = k := by omega
            rw [HX.out] at hr
            injection hr with hr
            subst hr
            exact Hc.out
        case measure => simp [intOf] <;> omega
    · have hall : anyBlank L = false := anyBlank_false fun r hr => by
        obtain ⟨j, hj, rfl⟩ := List.getElem_of_mem hr
        exact hno j _ (by omega) (List.getElem?_eq_getElem hj)
      have HA := Lib.hid hall
      clear hno hall
      go_wp2
      go_ret
      exact ⟨by rw [HA.out]; rfl, hb1⟩
/-- rebusref16.blanks. -/
theorem RefBlanks_any (s : ByteArray) (w : World) (hs : s.size ≤ 4294967296) :
    Calls Tryz.prog 79 #[.string s] w fun e w' => e = .returned (.bool (anyBlank (runes s))) ∧ Below w.heap.size w w' :=
  RefBlanks_L s (runes s) w (Nat.le_trans (runes_length s) hs) (runes_le s) (fun W => RefRunes_any s W hs)
end Go.Proofs.YtbjgfjmknnbahaaGreatDoor

/- Contracts: clue.Check's predicate; slices.IndexFunc, ContainsFunc at words. -/
set_option linter.unusedVariables false
set_option linter.unusedSimpArgs false
namespace Go.Proofs.YtbjgfjmknnbahaaGreatDoor
open Go.RowKit

def idxF (p : ByteArray → Bool) : List ByteArray → Nat → Int
  | [], _ => -1
  | x :: l, k => if p x then (k : Int) else idxF p l (k + 1)
def emptyW (x : ByteArray) : Bool := !neW x
def oddW (x : ByteArray) : Bool := anyBlank (runes x) || emptyW x
theorem idxF_range (p : ByteArray → Bool) : ∀ (l : List ByteArray) (k : Nat), idxF p l k = -1 ∨ ((k : Int) ≤ idxF p l k ∧ idxF p l k < k + l.length)
  | [], k => .inl rfl
  | x :: l, k => by
    unfold idxF
    split
    · exact .inr ⟨Int.le_refl _, by simp only [List.length_cons]; omega⟩
    · have := idxF_range p l (k + 1)
      simp only [List.length_cons]
      omega

set_option maxHeartbeats 4000000 in
set_option maxRecDepth 100000 in
theorem IndexEmpty_any (A : Option Addr) (n c : Nat) (ws : List ByteArray) (w : World) (ha : Rd w 1 A n (ws.map eS)) (hn : n ≤ 4294967296) (hz : ∀ x ∈ ws, x.size ≤ 4294967296) :
    Calls Tryz.prog 66 #[.slice A n c, .func (.func 31) #[] #[]] w fun e w' => e = .returned (.int .i64 (idxF emptyW ws 0)) ∧ Below w.heap.size w w' := by
  have hl : ws.length = n := by have := ha.1; simpa using this
  obtain ⟨K, hK⟩ : ∃ K, idxF emptyW ws 0 = K := ⟨_, rfl⟩
  rw [hK]
  have HK := Lib.hid hK
  have HZ := Lib.hid hz
  clear hK hz
  go_enter Tryz.func66, Tryz.ntmps66
  go_wp2_with fail
  go_loopw [8] (fun i wr => ∃ (k : Nat), i = .int .i64 k ∧ k ≤ n ∧ idxF emptyW (ws.drop k) k = K ∧ Below w.heap.size w wr) (fun i _ => n - (intOf i).toNat)
  case atStart => exact ⟨0, rfl, Nat.zero_le _, HK.out, Below.refl _ _⟩
  case round =>
    obtain ⟨k, rfl, hk, hix, hbw⟩ := hrel
    by_cases hlt : k < n
    · obtain ⟨b, o, x, rfl, hx, hc⟩ := (ha.keep hbw).at1 hlt
      have hxz := HZ.out x (List.mem_of_getElem? hx)
      rw [drop_cons hx] at hix
      simp only [idxF] at hix
      unfold eS at hc
      cases hp : emptyW x with
      | true =>
        rw [hp] at hix
        simp only [if_true] at hix
        have Hix := Lib.hid hix
        have hp2 : (!neW x) = true := hp
        clear hix hx hp
        go_wp2_with (go_at_call 31; refine (Empty_any x _ hxz).mono ?_; rintro e w2 ⟨rfl, hb2⟩)
        go_ret
        exact ⟨by rw [← Hix.out]; rfl, below_then hbw hbw.size hb2⟩
      | false =>
        rw [hp] at hix
        simp only [Bool.false_eq_true, if_false] at hix
        have Hix := Lib.hid hix
        have hp2 : (!neW x) = false := hp
        clear hix hx hp
        go_wp2_with (go_at_call 31; refine (Empty_any x _ hxz).mono ?_; rintro e w2 ⟨rfl, hb2⟩)
        go_roundw
        case rel => exact ⟨k + 1, by go_num, by omega, Hix.out, below_then hbw hbw.size hb2⟩
        case measure => simp [intOf] <;> omega
    · rw [List.drop_of_length_le (by omega)] at hix
      simp only [idxF] at hix
      have Hix := Lib.hid hix
      clear hix
      go_wp2
      go_ret
      exact ⟨by rw [← Hix.out]; rfl, hbw⟩
end Go.Proofs.YtbjgfjmknnbahaaGreatDoor

/- Contracts: clue.Check's predicate; slices.ContainsFunc at words; fold.Words. -/
set_option linter.unusedVariables false
set_option linter.unusedSimpArgs false
namespace Go.Proofs.YtbjgfjmknnbahaaGreatDoor
open Go.RowKit

theorem blank_grows (w : World) : PredGrows Tryz.prog 27 #[] blankB w := fun W x hx hb => by
  refine (Blank_any (x : Int) W (by omega) (by omega)).mono ?_
  rintro e w' ⟨rfl, rfl⟩
  exact ⟨rfl, Below.refl _ _⟩
theorem wordsPred_grows (w : World) : PredGrows Tryz.prog 56 #[] blankB w := fun W x hx hb => by
  refine (WordsPred_any (x : Int) W (by omega) (by omega)).mono ?_
  rintro e w' ⟨rfl, rfl⟩
  exact ⟨rfl, Below.refl _ _⟩
theorem enter_blank (args : Array Value) (w : World) : (callFunc 27 args).run Tryz.prog w = .ok (.enter 27 args) w := Go.MuLone.run_callFunc_enter Tryz.func27 (by kernel_rfl) rfl args w
theorem enter_wordsPred (args : Array Value) (w : World) : (callFunc 56 args).run Tryz.prog w = .ok (.enter 56 args) w := Go.MuLone.run_callFunc_enter Tryz.func56 (by kernel_rfl) rfl args w
/-- Is there a blank: strings.ContainsFunc's answer and the runes'. -/
theorem idx_any (s : ByteArray) : ∀ (f pos : Nat), s.size ≤ pos + f → decide (0 ≤ Lib.idxFuncFrom blankB true s f pos) = anyBlank ((seqFrom s f pos).map (·.2))
  | 0, pos, h => by simp [Lib.idxFuncFrom, seqFrom, anyBlank]
  | f + 1, pos, h => by
    unfold Lib.idxFuncFrom seqFrom
    by_cases hp : pos < s.size
    · rw [if_pos hp, if_pos hp]
      have hw := width_pos s pos hp
      by_cases hb : blankB (Utf8.decode s pos).1 = true
      · rw [if_pos hb]
        simp only [List.map_cons, anyBlank, List.any_cons, hb, Bool.true_or, decide_eq_true_eq]
        omega
      · rw [if_neg hb, idx_any s f _ (by omega)]
        simp only [Bool.not_eq_true] at hb
        simp [anyBlank, hb]
    · rw [if_neg hp, if_neg hp]
      simp [anyBlank]
theorem contains_any (s : ByteArray) : decide (0 ≤ Lib.idxFunc blankB true s) = anyBlank (runes s) := idx_any s s.size 0 (by omega)
theorem HasBlank_any (s : ByteArray) (w : World) :
    Calls Tryz.prog 40 #[.string s, .func (.func 27) #[] #[]] w fun e w' => e = .returned (.bool (anyBlank (runes s))) ∧ Below w.heap.size w w' := by
  rw [← contains_any]
  exact Tryz.strings_ContainsFunc_grows 27 #[] enter_blank blankB s w (blank_grows w)
/-- fold.Words. -/
theorem FieldsWords_any (s : ByteArray) (w : World) (hs : s.size ≤ 4294967296) :
    Calls Tryz.prog 55 #[.string s, .func (.func 56) #[] #[]] w fun e w' => Made w w' 9 1 (wordsL s).length ((wordsL s).map eS) e := by
  refine (Tryz.strings_FieldsFunc_grows 56 #[] enter_wordsPred blankB s w hs (wordsPred_grows w)).mono ?_
  rintro e w' ⟨A, rfl, hA, hown, hb⟩
  exact made_of hown hb
set_option maxRecDepth 100000 in
theorem Words_any (s : ByteArray) (w : World) (hs : s.size ≤ 4294967296) :
    Calls Tryz.prog 20 #[.string s] w fun e w' => Made w w' 9 1 (wordsL s).length ((wordsL s).map eS) e := by
  have HF := Lib.hid (fun W => FieldsWords_any s W hs)
  obtain ⟨ws, hws⟩ : ∃ ws, wordsL s = ws := ⟨_, rfl⟩
  rw [hws] at HF ⊢
  clear hws
  go_enter Tryz.func20, Tryz.ntmps20
  go_wp2_with (go_at_call 55; refine (HF.out _).mono ?_; rintro e w2 ⟨A2, c2, rfl, h1, h2, h3, h4, h5⟩)
  go_ret
  exact ⟨A2, c2, rfl, h1, h2, h3, h4, h5⟩
set_option maxHeartbeats 1000000 in
set_option maxRecDepth 100000 in
theorem Odd_any (s : ByteArray) (w : World) (hs : s.size ≤ 4294967296) :
    Calls Tryz.prog 39 #[.string s] w fun e w' => e = .returned (.bool (oddW s)) ∧ Below w.heap.size w w' := by
  have HB := Lib.hid (fun W => HasBlank_any s W)
  have HE := Lib.hid (fun W => Empty_any s W hs)
  cases hb : anyBlank (runes s) with
  | true =>
    have ho : oddW s = true := by simp [oddW, hb]
    rw [ho]
    rw [hb] at HB
    clear ho hb
    go_enter Tryz.func39, Tryz.ntmps39
    go_wp2_with (first
      | (go_at_call 40; refine (HB.out _).mono ?_; rintro e w2 ⟨rfl, hb2⟩)
      | (go_at_call 31; refine (HE.out _).mono ?_; rintro e w3 ⟨rfl, hb3⟩))
    go_ret
    exact ⟨rfl, hb2⟩
  | false =>
    have ho : oddW s = !neW s := by simp [oddW, hb, emptyW]
    rw [ho]
    rw [hb] at HB
    clear ho hb
    go_enter Tryz.func39, Tryz.ntmps39
    go_wp2_with (first
      | (go_at_call 40; refine (HB.out _).mono ?_; rintro e w2 ⟨rfl, hb2⟩)
      | (go_at_call 31; refine (HE.out _).mono ?_; rintro e w3 ⟨rfl, hb3⟩))
    go_ret
    exact ⟨rfl, below_then hb2 hb2.size hb3⟩
end Go.Proofs.YtbjgfjmknnbahaaGreatDoor

/- Words on memory: all as it was but for one block; how long words and lists of words are. -/
set_option linter.unusedVariables false
set_option linter.unusedSimpArgs false
namespace Go.Proofs.YtbjgfjmknnbahaaGreatDoor
open Go.RowKit

/-- All of a's memory but block g is as it was. -/
structure Apart (g : Nat) (a w : World) : Prop where
  os : w.os = a.os
  tape : w.tape = a.tape
  output : w.output = a.output
  size : a.heap.size ≤ w.heap.size
  block : ∀ k, k < a.heap.size → k ≠ g → w.heap[k]? = a.heap[k]?
theorem Apart.refl (g : Nat) (a : World) : Apart g a a := ⟨rfl, rfl, rfl, Nat.le_refl _, fun _ _ _ => rfl⟩
theorem Apart.below {g B : Nat} {w0 a w : World} (h : Apart g a w) (hb : Below B w0 a) (hB : B ≤ g) (hs : B ≤ a.heap.size) : Below B w0 w :=
  ⟨h.os.trans hb.os, h.tape.trans hb.tape, h.output.trans hb.output, Nat.le_trans hb.size h.size, fun k hk => (h.block k (by omega) (by omega)).trans (hb.block k hk)⟩
theorem Apart.step {g : Nat} {a w w' : World} (h : Apart g a w) (hb : Below w.heap.size w w') : Apart g a w' :=
  ⟨hb.os.trans h.os, hb.tape.trans h.tape, hb.output.trans h.output, Nat.le_trans h.size hb.size, fun k hk hn => (hb.block k (by have := h.size; omega)).trans (h.block k hk hn)⟩
theorem Apart.alloc {g : Nat} {a w : World} (h : Apart g a w) (o : Obj) : Apart g a (w.alloc o) := h.step ((Below.refl _ _).alloc (Nat.le_refl _) _)
theorem Apart.drew {g : Nat} {a w : World} (h : Apart g a w) : Apart g a w.drew := ⟨h.os, h.tape, h.output, h.size, h.block⟩
theorem Apart.drewN {g : Nat} {a w : World} (h : Apart g a w) (n : Nat) : Apart g a (w.drewN n) := ⟨h.os, h.tape, h.output, h.size, h.block⟩
theorem Apart.grown {g : Nat} {a w w' : World} {row : Option Nat} (h : Apart g a w) (hg : w.grownBy w' row) (hr : ∀ k, row = some k → a.heap.size ≤ k) : Apart g a w' := by
  obtain ⟨g1, g2, g3, g4, g5⟩ := hg
  refine ⟨g1.trans h.os, g2.trans h.tape, g3.trans h.output, Nat.le_trans h.size g4, fun k hk hn => (g5 k (by have := h.size; omega) (fun e => ?_)).trans (h.block k hk hn)⟩
  have := hr k e.symm
  omega
theorem Apart.setCell {g j : Nat} {a w : World} (h : Apart g a w) (u : Value) : Apart g a (w.setCell ⟨g, j, none⟩ u) := by
  refine ⟨h.os, h.tape, h.output, ?_, fun k hk hn => (Below.heap_setCell w _ u k hn).trans (h.block k hk hn)⟩
  have : (w.setCell ⟨g, j, none⟩ u).heap.size = w.heap.size := by simp [World.setCell]
  rw [this]; exact h.size
theorem Apart.setRow {g : Nat} {a w : World} (h : Apart g a w) (cs : Array Value) : Apart g a (w.setRow g cs) :=
  ⟨h.os, h.tape, h.output, by rw [setRow_size]; exact h.size, fun k hk hn => (setRow_other w g k cs hn).trans (h.block k hk hn)⟩
theorem Apart.cell {g : Nat} {a w : World} (h : Apart g a w) {p : Addr} {v : Value} (hp : p.block ≠ g) (hc : a.cell? p = some v) : w.cell? p = some v :=
  (World.cell?_of_block (h.block p.block (World.block_lt_of_cell? a p hc) hp)).trans hc
theorem Rd.apart {g : Nat} {a w : World} {k n : Nat} {A : Option Addr} {cs : List Value} (h : Rd a k A n cs) (hA : ∀ b o, A = some ⟨b, o, none⟩ → b ≠ g) (hw : Apart g a w) : Rd w k A n cs :=
  ⟨h.1, fun hn => by
    obtain ⟨b, o, e, hc⟩ := h.2 hn
    exact ⟨b, o, e, fun j u hu => hw.cell (hA b o e) (hc j u hu)⟩⟩

theorem heap_lt {w : World} {g : Nat} {o : Obj} (h : w.heap[g]? = some o) : g < w.heap.size := (Array.getElem?_eq_some_iff.1 h).1
theorem frozen_row {w : World} {g : Nat} {cs : Array Value} {t : TypeId} (h : w.heap[g]? = some (.cells cs t (0, 0))) (j : Nat) : w.frozen? ⟨g, j, none⟩ = false := by simp [World.frozen?, h]
theorem own_block {w : World} {base E k n c m b o : Nat} {xs : List Value} (h : w.ownsRow base E k (.slice (some ⟨b, o, none⟩) n c) m xs) : base ≤ b := by
  rcases h.2 with ⟨hv, _⟩ | ⟨g, cap, cur, hv, hb, rest⟩
  · cases hv
  · injection hv with hv
    injection hv with hv
    injection hv with hv
    omega
theorem spans_length (p : Nat → Bool) (s : ByteArray) : ∀ (f pos : Nat) (st : Option Nat) (acc : List (Nat × Nat)), (Lib.spansFromP p s f pos st acc).1.length ≤ acc.length + f
  | 0, _, _, acc => by simp [Lib.spansFromP]
  | f + 1, pos, st, acc => by
    unfold Lib.spansFromP
    split
    · split
      · cases st with
        | none => have := spans_length p s f (pos + (Utf8.decode s pos).2) none acc; simp only; omega
        | some a => have := spans_length p s f (pos + (Utf8.decode s pos).2) none (acc ++ [(a, pos)]); simp only [List.length_append, List.length_cons, List.length_nil] at this ⊢; omega
      · cases st with
        | none => have := spans_length p s f (pos + (Utf8.decode s pos).2) (some pos) acc; simp only; omega
        | some a => have := spans_length p s f (pos + (Utf8.decode s pos).2) (some a) acc; simp only; omega
    · simp
theorem wordsL_length (s : ByteArray) : (wordsL s).length ≤ s.size + 1 := by
  unfold wordsL Lib.goFieldsP Lib.spansOfP
  rw [List.length_map]
  have h := spans_length blankB s s.size 0 none []
  unfold Lib.closeSpans
  split
  · simp at h ⊢; omega
  · simp at h ⊢; omega
theorem wordsL_size (s : ByteArray) : ∀ x ∈ wordsL s, x.size ≤ s.size := by
  intro x hx
  unfold wordsL Lib.goFieldsP at hx
  obtain ⟨p, _, rfl⟩ := List.mem_map.1 hx
  rw [ByteArray.size_extract]
  omega
end Go.Proofs.YtbjgfjmknnbahaaGreatDoor

/- Contract: slices.DeleteFunc at words, with clue.empty. -/
set_option linter.unusedVariables false
set_option linter.unusedSimpArgs false
namespace Go.Proofs.YtbjgfjmknnbahaaGreatDoor
open Go.RowKit

theorem idxF_spec (p : ByteArray → Bool) : ∀ (l : List ByteArray) (k : Nat), (idxF p l k = -1 ∧ ∀ x ∈ l, p x = false) ∨ (∃ i, i < l.length ∧ idxF p l k = ((k + i : Nat) : Int) ∧ (∀ x ∈ l.take i, p x = false) ∧ ∀ x, l[i]? = some x → p x = true)
  | [], k => .inl ⟨rfl, fun x h => by simp at h⟩
  | y :: l, k => by
    unfold idxF
    by_cases h : p y = true
    · rw [if_pos h]
      exact .inr ⟨0, by simp, rfl, by simp, fun x hx => by simp at hx; subst hx; exact h⟩
    · rw [if_neg h]
      simp only [Bool.not_eq_true] at h
      rcases idxF_spec p l (k + 1) with ⟨h1, h2⟩ | ⟨i, h1, h2, h3, h4⟩
      · exact .inl ⟨h1, fun x hx => by rcases List.mem_cons.1 hx with rfl | hx; exact h; exact h2 x hx⟩
      · refine .inr ⟨i + 1, by simp; omega, by rw [h2]; congr 1; omega, fun x hx => ?_, fun x hx => h4 x (by simpa using hx)⟩
        rw [List.take_succ_cons] at hx
        rcases List.mem_cons.1 hx with rfl | hx
        · exact h
        · exact h3 x hx
theorem keepW_all {l : List ByteArray} (h : ∀ x ∈ l, emptyW x = false) : keepW l = l := by
  unfold keepW
  rw [List.filter_eq_self]
  intro x hx
  have := h x hx
  simpa [emptyW] using this
theorem keepW_snoc (l : List ByteArray) (x : ByteArray) : keepW (l ++ [x]) = if neW x then keepW l ++ [x] else keepW l := by
  unfold keepW
  rw [List.filter_append]
  cases h : neW x <;> simp [h]

set_option maxHeartbeats 4000000 in
set_option maxRecDepth 100000 in
theorem Delete_any (A : Option Addr) (n c B : Nat) (ws : List ByteArray) (w : World) (ha : w.ownsRow B 9 1 (.slice A n c) n (ws.map eS)) (hB : B ≤ w.heap.size) (hn : n ≤ 4294967296) (hnc : n ≤ c) (hz : ∀ x ∈ ws, x.size ≤ 4294967296) :
    Calls Tryz.prog 30 #[.slice A n c, .func (.func 31) #[] #[]] w fun e w' => e = .returned (.slice A (keepW ws).length c) ∧ Rd w' 1 A (keepW ws).length ((keepW ws).map eS) ∧ Below B w w' := by
  have hl : ws.length = n := by have := ha.1; simpa using this
  obtain ⟨A', c', hv, _, _, hrd⟩ := own_rd ha
  injection hv with hv1 hv2 hv3
  subst hv1; subst hv3
  have HI := Lib.hid (fun W (h : Rd W 1 A n (ws.map eS)) => IndexEmpty_any A n c ws W h hn hz)
  have HZ := Lib.hid hz
  clear hz
  rcases idxF_spec emptyW ws 0 with ⟨h1, h2⟩ | ⟨i0, h1, h2, h3, h4⟩
  · have hk : keepW ws = ws := keepW_all h2
    rw [hk, hl]
    have H1 := Lib.hid h1
    clear h1 h2 hk
    go_enter Tryz.func30, Tryz.ntmps30
    go_wp2_with (go_at_call 66; refine (HI.out _ hrd).mono ?_; rintro e w1 ⟨rfl, hb1⟩; rw [H1.out])
    go_ret
    exact ⟨rfl, hrd.keep hb1, hb1.mono hB⟩
  · rw [Nat.zero_add] at h2
    rw [hl] at h1
    obtain ⟨g, cap, cur, hv, hg, rest⟩ : ∃ g cap cur, Value.slice A n c = .slice (some ⟨g, 0, none⟩) n cap ∧ B ≤ g ∧ w.heap[g]? = some (.cells cur 9 (0, 0)) := by
      rcases ha.2 with ⟨hv, h0⟩ | ⟨g, cap, cur, hv, hg, hh, _⟩
      · omega
      · exact ⟨g, cap, cur, hv, hg, hh⟩
    injection hv with hv1 hv2 hv3
    subst hv1; subst hv3
    have hgl := heap_lt rest
    have hkeep : keepW (ws.take (i0 + 1)) = ws.take i0 := by
      have hx : ws[i0]? = some ws[i0] := List.getElem?_eq_getElem (by omega)
      rw [take_snoc' hx, keepW_snoc, keepW_all h3]
      have := h4 _ hx
      have hne : neW ws[i0] = false := by simpa [emptyW] using this
      rw [hne]
      rfl
    have Hkeep := Lib.hid hkeep
    have H2 := Lib.hid h2
    clear hkeep h2 h3 h4 rest
    go_enter Tryz.func30, Tryz.ntmps30
    go_wp2_with (go_at_call 66; refine (HI.out _ hrd).mono ?_; rintro e w1 ⟨rfl, hb1⟩; rw [H2.out])
    have hown1 := own_keep ha hb1
    have hbB := hb1.mono hB
    go_loopw [5, 6] (fun vi vj wr => ∃ (i j : Nat) (row : List ByteArray), vi = .int .i64 i ∧ vj = .int .i64 j ∧ i < j ∧ j ≤ n ∧ row.length = n ∧ row.take i = keepW (ws.take j) ∧ row.drop j = ws.drop j ∧ wr.ownsRow B 9 1 (.slice (some ⟨g, 0, none⟩) n c) n (row.map eS) ∧ Below B w wr) (fun _ vj _ => n - (intOf vj).toNat)
    case atStart => exact ⟨i0, i0 + 1, ws, rfl, by go_num, by omega, by omega, hl, Hkeep.out.symm, rfl, hown1, hbB⟩
    case round =>
      obtain ⟨i, j, row, rfl, rfl, hij, hjn, hrl, htk, hdr, hown, hbw⟩ := hrel
      have hsz := hbw.size
      by_cases hlt : j < n
      · have hx : ws[j]? = some ws[j] := List.getElem?_eq_getElem (by omega)
        have hrx : row[j]? = some ws[j] := by
          have h5 : (row.drop j)[0]? = (ws.drop j)[0]? := by rw [hdr]
          rw [List.getElem?_drop, List.getElem?_drop, Nat.add_zero] at h5
          rw [h5]; exact hx
        obtain ⟨y, hri⟩ : ∃ y, row[i]? = some y := ⟨_, List.getElem?_eq_getElem (show i < row.length by omega)⟩
        have hxz := HZ.out _ (List.mem_of_getElem? hx)
        generalize ws[j] = x at hx hrx hxz
        have hcx := hown.cellAt j (by omega)
        have hci := hown.cellAt i (by omega)
        have hfi := hown.frozenAt i
        rw [List.getElem?_map, hrx] at hcx
        rw [List.getElem?_map, hri] at hci
        simp only [Option.map_some, eS] at hcx hci
        have hsn := keepW_snoc (ws.take j) x
        rw [← take_snoc' hx] at hsn
        have hdr2 : row.drop (j + 1) = ws.drop (j + 1) := by
          have := congrArg (List.drop 1) hdr
          rw [List.drop_drop, List.drop_drop] at this
          exact this
        cases hp : neW x with
        | true =>
          rw [hp] at hsn
          simp only [if_true] at hsn
          have hp2 : (!neW x) = false := by rw [hp]; rfl
          have Hsn := Lib.hid hsn
          have Htk := Lib.hid htk
          have Hdr := Lib.hid hdr2
          have Hrl := Lib.hid hrl
          clear hsn htk hdr hdr2 hx hrx hri hp hrl
          go_wp2_with (go_at_call 31; refine (Empty_any x _ hxz).mono ?_; rintro e w2 ⟨rfl, hb2⟩; have hci2 := cell_keep hb2 hci; have hfi2 := (hb2.frozen (p := ⟨g, i, none⟩) (show g < wr.heap.size by omega)).trans hfi)
          have hown2 := own_keep hown hb2
          have hst := hown2.stored i (eS x)
          have hbw2 := below_then hbw (by omega) hb2
          go_roundw
          case rel =>
            (repeat apply Exists.intro)
            refine ⟨?_, rfl⟩
            refine ⟨i + 1, j + 1, row.set i x, by go_num, by go_num, by omega, by omega, by rw [List.length_set]; exact Hrl.out, ?_, ?_, ?_, (hbw2.setCell hg _)⟩
            · rw [Hsn.out, ← Htk.out, take_snoc' (x := x) (by rw [List.getElem?_set_self (by have := Hrl.out; omega)]), List.take_set_of_le (Nat.le_refl _)]
            · rw [List.drop_set_of_lt (by omega)]; exact Hdr.out
            · have := hst.1
              rw [← List.map_set] at this
              exact this
          case measure => simp [intOf] <;> omega
        | false =>
          rw [hp] at hsn
          simp only [Bool.false_eq_true, if_false] at hsn
          have hp2 : (!neW x) = true := by rw [hp]; rfl
          have Hsn := Lib.hid hsn
          have Htk := Lib.hid htk
          have Hdr := Lib.hid hdr2
          have Hrl := Lib.hid hrl
          clear hsn htk hdr hdr2 hx hrx hri hp hrl
          go_wp2_with (go_at_call 31; refine (Empty_any x _ hxz).mono ?_; rintro e w2 ⟨rfl, hb2⟩)
          go_roundw
          case rel =>
            (repeat apply Exists.intro)
            refine ⟨?_, rfl⟩
            exact ⟨i, j + 1, row, rfl, by go_num, by omega, by omega, Hrl.out, by rw [Hsn.out]; exact Htk.out, Hdr.out, own_keep hown hb2, below_then hbw (by omega) hb2⟩
          case measure => simp [intOf] <;> omega
      · obtain rfl : j = n := by omega
        rw [← hl, List.take_length] at htk
        have hil : (keepW ws).length = i := by rw [← htk, List.length_take]; omega
        have hcl : ∀ ty, (Builtin.clear_ #[23] ty #[.slice (some ⟨g, i, none⟩) (j - i) (c - i)]).run Tryz.prog wr = .ok (.tuple #[]) (wr.setCells g i (List.replicate (j - i) (.string ⟨#[]⟩))) := fun ty =>
          Lib.run_clear_slice wr 23 9 ty (.string ⟨#[]⟩) Tryz.underlying23 Tryz.zeroValue9 rfl rfl g i (j - i) (c - i) (by omega) (fun k hk => by rw [hown.cellAt (i + k) (by omega), List.getElem?_map, List.getElem?_eq_getElem (show i + k < row.length by omega)]; rfl) (fun k hk => hown.frozenAt (i + k))
        have hbe : Below B w (wr.setCells g i (List.replicate (j - i) (.string ⟨#[]⟩))) := hbw.trans (Lib.below_setCells_w hg _ _ _)
        have hrr : Rd (wr.setCells g i (List.replicate (j - i) (.string ⟨#[]⟩))) 1 (some ⟨g, 0, none⟩) (keepW ws).length ((keepW ws).map eS) := by
          refine ⟨by simp, fun _ => ⟨g, 0, rfl, fun k u hu => ?_⟩⟩
          have hki : k < i := by
            have := (List.getElem?_eq_some_iff.1 hu).1
            rw [List.length_map] at this
            omega
          rw [World.cell?_setCells_out _ _ _ _ _ (fun _ _ => .inl (by show 0 + k < i; omega))]
          rw [Nat.zero_add, hown.cellAt k (by omega), List.getElem?_map]
          rw [← htk, List.getElem?_map, List.getElem?_take_of_lt hki] at hu
          exact hu
        have HR := Lib.hid hrr
        have HBE := Lib.hid hbe
        have HIL := Lib.hid hil
        clear hrr hbe htk hdr hil
        go_wp2_with (simp only [hcl])
        go_ret
        exact ⟨by rw [HIL.out]; rfl, HR.out, HBE.out⟩
end Go.Proofs.YtbjgfjmknnbahaaGreatDoor

/- Contract: rebusref16.Same. -/
set_option linter.unusedVariables false
set_option linter.unusedSimpArgs false
namespace Go.Proofs.YtbjgfjmknnbahaaGreatDoor
open Go.RowKit

/-- A clue that reads as these words, sizes and marks. -/
structure IsClue (w : World) (v : Value) (ws : List ByteArray) (zs : List Int) (mk : ByteArray) : Prop where
  ex : ∃ A n c B m d, v = .agg #[.slice A n c, .slice B m d, .string mk] ∧ Rd w 1 A n (ws.map eS) ∧ Rd w 1 B m (zs.map eZ) ∧ n ≤ c ∧ m ≤ d ∧ c ≤ maxLen ∧ d ≤ maxLen ∧ ws.length = n ∧ zs.length = m
theorem IsClue.keep {w w1 : World} {v : Value} {ws : List ByteArray} {zs : List Int} {mk : ByteArray} (h : IsClue w v ws zs mk) (hb : Below w.heap.size w w1) : IsClue w1 v ws zs mk := by
  obtain ⟨A, n, c, B, m, d, rfl, h1, h2, h3⟩ := h.ex
  exact ⟨A, n, c, B, m, d, rfl, h1.keep hb, h2.keep hb, h3⟩
def sameC (ws vs : List ByteArray) (zs ys : List Int) (mk nk : ByteArray) : Bool := decide (ws = vs ∧ zs = ys ∧ mk = nk)

set_option maxHeartbeats 2000000 in
set_option maxRecDepth 100000 in
theorem RefSame_any (a b : Value) (ws vs : List ByteArray) (zs ys : List Int) (mk nk : ByteArray) (w : World) (ha : IsClue w a ws zs mk) (hb : IsClue w b vs ys nk) (h1 : ws.length ≤ 4294967296) (h2 : vs.length ≤ 4294967296) (h3 : zs.length ≤ 4294967296) (h4 : ys.length ≤ 4294967296) :
    Calls Tryz.prog 10 #[a, b] w fun e w' => e = .returned (.bool (sameC ws vs zs ys mk nk)) ∧ Below w.heap.size w w' := by
  obtain ⟨A, n, c, B, m, d, rfl, ha1, ha2, k1, k2, k3, k4, k5, k6⟩ := ha.ex
  obtain ⟨A', n', c', B', m', d', rfl, hb1, hb2, l1, l2, l3, l4, l5, l6⟩ := hb.ex
  have hb4 : ∀ (o1 o2 : Obj) (q1 : Nat), Below w.heap.size w (((w.alloc o1).alloc o2).drewN q1) := fun o1 o2 q1 =>
    below_drw (((Below.refl _ _).alloc (Nat.le_refl _) _).alloc (by simp) _) q1
  by_cases hw : ws = vs
  · have es : sameT ws vs = true := sameT_true hw
    by_cases hz : zs = ys
    · have ez : sameZ zs ys = true := sameZ_true hz
      by_cases hm : mk = nk
      · have hk : sameC ws vs zs ys mk nk = true := by simp [sameC, hw, hz, hm]
        rw [hk]
        clear hk hw hz
        subst hm
        go_enter Tryz.func10, Tryz.ntmps10
        go_wp2_with (first
          | (go_at_call 15; refine (RefSameTexts_any _ _ _ _ _ _ ws vs _ (ha1.keep (((Below.refl _ _).alloc (Nat.le_refl _) _).alloc (by simp) _)) (hb1.keep (((Below.refl _ _).alloc (Nat.le_refl _) _).alloc (by simp) _)) (by omega) (by omega)).mono ?_; rintro e w' ⟨rfl, q1, rfl⟩; simp only [es])
          | (go_at_call 38; refine (RefSameInts_any _ _ _ _ _ _ zs ys _ ((ha2.keep (((Below.refl _ _).alloc (Nat.le_refl _) _).alloc (by simp) _)).drewN q1) ((hb2.keep (((Below.refl _ _).alloc (Nat.le_refl _) _).alloc (by simp) _)).drewN q1) (by omega) (by omega)).mono ?_; rintro e w' ⟨rfl, q2, rfl⟩; simp only [ez]))
        go_ret
        exact ⟨rfl, hb4 _ _ _⟩
      · have hk : sameC ws vs zs ys mk nk = false := by simp [sameC, hm]
        rw [hk]
        have hmk : (mk.toList == nk.toList) = false := by simpa using fun h => hm (toList_inj h)
        clear hk hw hz
        go_enter Tryz.func10, Tryz.ntmps10
        go_wp2_with (first
          | (go_at_call 15; refine (RefSameTexts_any _ _ _ _ _ _ ws vs _ (ha1.keep (((Below.refl _ _).alloc (Nat.le_refl _) _).alloc (by simp) _)) (hb1.keep (((Below.refl _ _).alloc (Nat.le_refl _) _).alloc (by simp) _)) (by omega) (by omega)).mono ?_; rintro e w' ⟨rfl, q1, rfl⟩; simp only [es])
          | (go_at_call 38; refine (RefSameInts_any _ _ _ _ _ _ zs ys _ ((ha2.keep (((Below.refl _ _).alloc (Nat.le_refl _) _).alloc (by simp) _)).drewN q1) ((hb2.keep (((Below.refl _ _).alloc (Nat.le_refl _) _).alloc (by simp) _)).drewN q1) (by omega) (by omega)).mono ?_; rintro e w' ⟨rfl, q2, rfl⟩; simp only [ez]))
        go_ret
        exact ⟨rfl, hb4 _ _ _⟩
    · have ez : sameZ zs ys = false := sameZ_false hz
      have hk : sameC ws vs zs ys mk nk = false := by simp [sameC, hz]
      rw [hk]
      clear hk hw hz
      go_enter Tryz.func10, Tryz.ntmps10
      go_wp2_with (first
          | (go_at_call 15; refine (RefSameTexts_any _ _ _ _ _ _ ws vs _ (ha1.keep (((Below.refl _ _).alloc (Nat.le_refl _) _).alloc (by simp) _)) (hb1.keep (((Below.refl _ _).alloc (Nat.le_refl _) _).alloc (by simp) _)) (by omega) (by omega)).mono ?_; rintro e w' ⟨rfl, q1, rfl⟩; simp only [es])
          | (go_at_call 38; refine (RefSameInts_any _ _ _ _ _ _ zs ys _ ((ha2.keep (((Below.refl _ _).alloc (Nat.le_refl _) _).alloc (by simp) _)).drewN q1) ((hb2.keep (((Below.refl _ _).alloc (Nat.le_refl _) _).alloc (by simp) _)).drewN q1) (by omega) (by omega)).mono ?_; rintro e w' ⟨rfl, q2, rfl⟩; simp only [ez]))
      go_ret
      exact ⟨rfl, hb4 _ _ _⟩
  · have es : sameT ws vs = false := sameT_false hw
    have hk : sameC ws vs zs ys mk nk = false := by simp [sameC, hw]
    rw [hk]
    clear hk hw
    go_enter Tryz.func10, Tryz.ntmps10
    go_wp2_with (first
      | (go_at_call 15; refine (RefSameTexts_any _ _ _ _ _ _ ws vs _ (ha1.keep (((Below.refl _ _).alloc (Nat.le_refl _) _).alloc (by simp) _)) (hb1.keep (((Below.refl _ _).alloc (Nat.le_refl _) _).alloc (by simp) _)) (by omega) (by omega)).mono ?_; rintro e w' ⟨rfl, q1, rfl⟩; simp only [es])
      | (go_at_call 38; refine (RefSameInts_any _ _ _ _ _ _ zs ys _ ((ha2.keep (((Below.refl _ _).alloc (Nat.le_refl _) _).alloc (by simp) _)).drewN q1) ((hb2.keep (((Below.refl _ _).alloc (Nat.le_refl _) _).alloc (by simp) _)).drewN q1) (by omega) (by omega)).mono ?_; rintro e w' ⟨rfl, q2, rfl⟩; simp only [ez]))
    go_ret
    exact ⟨rfl, hb4 _ _ _⟩
end Go.Proofs.YtbjgfjmknnbahaaGreatDoor

/- Contract: rebusref01.Of: the texts of a list of runes, one behind another. -/
set_option linter.unusedVariables false
set_option linter.unusedSimpArgs false
namespace Go.Proofs.YtbjgfjmknnbahaaGreatDoor
open Go.RowKit

theorem strOf_cells (s : ByteArray) : strOfNums (s.data.toList.map fun b => (b.toNat : Int)) = s := by
  apply ByteArray.ext
  apply Array.toList_inj.1
  rw [strOfNums_data, List.map_map]
  conv => rhs; rw [← List.map_id s.data.toList]
  apply List.map_congr_left
  intro x _
  simp
theorem empty_of {s : ByteArray} (h : s.size = 0) : s = ByteArray.empty := by
  apply ByteArray.ext
  exact Array.eq_empty_of_size_eq_zero h
/-- A []byte that is owned and reads as a text, made a text. -/
theorem own_conv {P : Program} {w : World} {base e' src e dst n : Nat} {v : Value} {s : ByteArray} (h : w.ownsRow base e' 1 v n (Lib.strCells s)) (hs : P.underlying src = some (.slice e)) (he : P.underlying e = some (.int .u8)) (hd : P.underlying dst = some .string) :
    (convert src dst v).run P w = .ok (.string s) w := by
  have hl : s.size = n := by have := h.1; rw [Lib.strCells_length] at this; simpa using this
  rcases h.2 with ⟨rfl, h0⟩ | ⟨g, cap, cur, rfl, rest⟩
  · rw [empty_of (show s.size = 0 by omega)]
    exact run_convert_bytes_nil w src e hs he 0 0 dst hd
  · have hc := h.cells (g := g) rfl
    have hr := run_convert_bytes_arg w src e hs he g 0 n cap (s.data.toList.map fun b => (b.toNat : Int)) (by simp; exact hl) (fun i hi => ?_) dst hd
    · rw [strOf_cells] at hr; exact hr
    have hi' : i < s.data.toList.length := by simp; show i < s.size; omega
    have := hc i (.int .u8 (s.data.toList[i]).toNat) (by simp only [Lib.strCells, List.getElem?_map, List.getElem?_eq_getElem hi', Option.map_some])
    have hp : (⟨g, 0, none⟩ : Addr).add i = ⟨g, 0 + i, none⟩ := by unfold Addr.add; split <;> simp_all
    rw [hp] at this
    rw [this]
    simp [List.getD, List.getElem?_eq_getElem hi', List.getElem?_map]
theorem strCells_app (a b : ByteArray) : Lib.strCells (a ++ b) = Lib.strCells a ++ Lib.strCells b := by simp [Lib.strCells]
theorem take_at {α : Type} {l : List α} {k : Nat} {x : α} (h : l[k]? = some x) : l.take (k + 1) = l.take k ++ [x] := by
  rw [List.take_add_one, h]; rfl
theorem info_u8 : (Tryz.prog.info? 5).map (fun i => (i.zero, i.size, i.bytes)) = some (some (.int .u8 0), 1, 1) := by kernel_rfl

set_option maxHeartbeats 2000000 in
set_option maxRecDepth 100000 in
theorem RefOf_any (A : Option Addr) (n c : Nat) (rs : List Nat) (w : World) (ha : Rd w 1 A n (rs.map eR)) (hn : n ≤ 4294967296) (hr : ∀ r ∈ rs, r ≤ 1114111) :
    Calls Tryz.prog 46 #[.slice A n c] w fun e w' => e = .returned (.string (encL rs)) ∧ Below w.heap.size w w' := by
  obtain ⟨i0, hi, hz0, hz1, hz2⟩ := info_parts info_u8
  have hrl : rs.length = n := by have := ha.1; simpa using this
  go_enter Tryz.func46, Tryz.ntmps46
  go_wp2
  go_loopw [3, 4] (fun v p wr => ∃ (k : Nat) (out : ByteArray), p = .int .i64 k ∧ k ≤ n ∧ out = encL (rs.take k) ∧ out.size ≤ 4 * k ∧ wr.ownsRow w.heap.size 5 1 v out.size (Lib.strCells out) ∧ Below w.heap.size w wr) (fun _ p _ => n - (intOf p).toNat)
  case atStart => exact ⟨0, ByteArray.empty, rfl, Nat.zero_le _, rfl, Nat.le_refl _, World.ownsRow_nil _ _ _ _, Below.refl _ _⟩
  case round =>
    obtain ⟨k, out, rfl, hk, hout, hos, hown, hbw⟩ := hrel
    have hsz := hbw.size
    by_cases hlt : k < n
    · obtain ⟨b, o, x, rfl, hx, hc⟩ := (ha.keep hbw).at1 hlt
      have hxm := hr x (List.mem_of_getElem? hx)
      have hes := enc_size (x : Int)
      have hnext : out ++ Utf8.encode (x : Int) = encL (rs.take (k + 1)) := by rw [take_at hx, encL_snoc, hout]
      have Hn := Lib.hid hnext
      clear hnext hout hx
      unfold eR at hc
      go_wp2_with (first
        | (go_at_call 70; refine (RefEncode_any (x : Int) _ (by omega) (by omega)).mono ?_; rintro e w2 ⟨rfl, hb2⟩; have hsz2 := hb2.size; replace hown := own_keep hown hb2)
        | (at_builtin; (refine Lib.wpList_append_own_string _ rfl _ _ 72 9 rfl w.heap.size 5 i0 Tryz.underlying72 Tryz.underlying9 hi hz0 hz1 hz2 _ _ _ rfl hown (Utf8.encode (x : Int)) rfl (by simp only [maxLen]; omega) (by omega) (by omega) ?_; intro v' w3 hown3 hg3 hn3)))
      go_roundw
      case rel =>
        refine ⟨k + 1, out ++ Utf8.encode (x : Int), by go_num, by omega, Hn.out, by rw [ByteArray.size_append]; omega, ?_, (below_then hbw hsz hb2).grown hg3 (by omega) (fun k e => (hown.lt k e).1)⟩
        rw [ByteArray.size_append, strCells_app]
        exact hown3
      case measure => simp [intOf]; omega
    · have hkn : k = n := by omega
      subst hkn
      rw [← hrl, List.take_length] at hout
      have hcv := fun dst hd => own_conv (P := Tryz.prog) (dst := dst) hown Tryz.underlying72 Tryz.underlying5 hd
      have hcv2 := hcv 9 Tryz.underlying9
      have Ho := Lib.hid hout
      clear hout hcv
      go_wp2
      go_ret
      exact ⟨by rw [← Ho.out]; rfl, hbw⟩
end Go.Proofs.YtbjgfjmknnbahaaGreatDoor
