/-
  Proved: for every clue, clue's Check, Print and Letters are the document's, and what is printed is read back as the same clue. The conditions: what is read is of bulk at most 1048576; the row's own (the seven package-level variables that it lists hold what the program's text lays).
-/
import Derived.Test.YtbjgfjmknnbahaaGreatDoorR10
import Derived.Test.YtbjgfjmknnbahaaGreatDoorR9
import Derived.Test.YtbjgfjmknnbahaaGreatDoorR11
import Derived.Test.YtbjgfjmknnbahaaGreatDoorC1
import Derived.Test.YtbjgfjmknnbahaaGreatDoorR7
import Derived.Test.YtbjgfjmknnbahaaGreatDoorR4
import Derived.Test.YtbjgfjmknnbahaaGreatDoorR3
import Derived.Test.YtbjgfjmknnbahaaGreatDoorR8
import Derived.Deep.RegionHeldLaw
import Derived.Deep.RegionHeld3
import Derived.Deep.RegionLawGrows
import Derived.Test.YtbjgfjmknnbahaaGreatDoorR2
import Derived.Carry
/- Words on a clue's text. -/
set_option linter.unusedVariables false
set_option linter.unusedSimpArgs false
namespace Go.Proofs.YtbjgfjmknnbahaaGreatDoor
open Go.RowKit

/-- The words, each with a space behind it. -/
def wordsT : List ByteArray → ByteArray
  | [] => ByteArray.empty
  | x :: l => x ++ (⟨#[32]⟩ ++ wordsT l)
/-- The sizes from place k on, a mark ahead of each but the first. -/
def sizesT (mk : ByteArray) : Nat → List Int → ByteArray
  | _, [] => ByteArray.empty
  | k, z :: l => (if 0 < k then mk.extract (k - 1) k else ByteArray.empty) ++ (decS z.toNat ++ sizesT mk (k + 1) l)
def printF (ws : List ByteArray) (zs : List Int) (mk : ByteArray) : ByteArray := wordsT ws ++ (⟨#[40]⟩ ++ (sizesT mk 0 zs ++ ⟨#[41]⟩))
end Go.Proofs.YtbjgfjmknnbahaaGreatDoor

/- Contract: clue.Print. -/
set_option linter.unusedVariables false
set_option linter.unusedSimpArgs false
namespace Go.Proofs.YtbjgfjmknnbahaaGreatDoor
open Go.RowKit

theorem wordsT_join : ∀ ws : List ByteArray, ws ≠ [] → wordsT ws = joinS ws ++ sp
  | [], h => absurd rfl h
  | [x], _ => by rw [joinS_one, wordsT, wordsT, ByteArray.append_empty]; rfl
  | x :: y :: l, _ => by
    have ih := wordsT_join (y :: l) (by simp)
    rw [wordsT, ih, joinS_cons]
    simp only [ByteArray.append_assoc]
    rfl
theorem print_join (ws : List ByteArray) (zs : List Int) (mk : ByteArray) (h : ws ≠ []) : (joinS ws ++ ⟨#[32, 40]⟩) ++ (sizesT mk 0 zs ++ ⟨#[41]⟩) = printF ws zs mk := by
  unfold printF
  rw [wordsT_join ws h]
  have : (⟨#[32, 40]⟩ : ByteArray) = sp ++ ⟨#[40]⟩ := rfl
  rw [this]
  simp only [ByteArray.append_assoc]
theorem strCells_one (mk : ByteArray) (k : Nat) (h : k < mk.size) : Lib.strCells (mk.extract k (k + 1)) = [.int .u8 ((mk.get! k).toNat : Int)] := by
  unfold Lib.strCells
  rw [Lib.extract_data]
  have hd : (mk.data.toList.drop k).take (k + 1 - k) = [mk.get! k] := by
    rw [List.drop_eq_getElem_cons (by rw [← Lib.size_eq]; exact h), show k + 1 - k = 1 by omega]
    have := get_bang_list mk k h
    rw [List.getElem?_eq_getElem (by rw [← Lib.size_eq]; exact h)] at this
    injection this with this
    simp [this]
  rw [hd]
  rfl
theorem builder_keep {T e : TypeId} {B b : Nat} {bs : List Value} {w w' : World} (h : Lib.IsBuilderF T e B b bs w) (hb : Below w.heap.size w w') : Lib.IsBuilderF T e B b bs w' :=
  IsBuilderF_keep h fun k o hk _ => (hb.block k (heap_lt hk)).trans hk

set_option maxHeartbeats 4000000 in
set_option maxRecDepth 100000 in
theorem CluePrint_bad (v : Value) (ws : List ByteArray) (zs : List Int) (mk : ByteArray) (w : World) (hc : IsClue w v ws zs mk) (h1 : ws.length ≤ 4294967296) (h2 : zs.length ≤ 4294967296) (h3 : mk.size ≤ 4294967296) (h4 : ∀ x ∈ ws, x.size ≤ 4294967296) (hz : checkF ws zs mk ≠ 0) :
    Calls Tryz.prog 21 #[v] w fun e w' => e = .returned (.tuple #[.string ByteArray.empty, .int .i64 (checkF ws zs mk : Nat)]) ∧ Below w.heap.size w w' := by
  have HC := Lib.hid (fun W (h : IsClue W v ws zs mk) => Check_any v ws zs mk W h h1 h2 h3 h4)
  have hcl := hc
  obtain ⟨A, n, c, B, m, d, rfl, ha, hb, k1, k2, k3, k4, hn, hm⟩ := hc.ex
  have hg0 := heap_alloc_new w (.cells #[.slice A n c, .slice B m d, .string mk] 26)
  have hb0 : Below w.heap.size w (w.alloc (.cells #[.slice A n c, .slice B m d, .string mk] 26)) := (Below.refl _ _).alloc (Nat.le_refl _) _
  have hcl2 := hcl.keep hb0
  clear h4 hc
  generalize checkF ws zs mk = q at hz HC ⊢
  have hq : ((q : Int) != 0) = true := by simp; omega
  clear hz
  go_enter Tryz.func21, Tryz.ntmps21
  go_wp2_with (first
    | (refine wpList_load_row rfl 26 _ rfl w.heap.size rfl 26 _ (0, 0) _ hg0 Tryz.underlying26 rfl rfl ?_)
    | (go_at_call 11; refine (HC.out _ hcl2).mono ?_; rintro e w2 ⟨rfl, hb2⟩))
  go_ret2
  exact ⟨rfl, below_then hb0 hb0.size hb2⟩

set_option maxHeartbeats 4000000 in
set_option maxRecDepth 100000 in
theorem CluePrint_good (v : Value) (ws : List ByteArray) (zs : List Int) (mk : ByteArray) (w : World) (hc : IsClue w v ws zs mk) (h1 : ws.length ≤ 4294967296) (h2 : zs.length ≤ 4294967296) (h3 : mk.size ≤ 4294967296) (h4 : ∀ x ∈ ws, x.size ≤ 4294967296) (hz : checkF ws zs mk = 0) :
    Calls Tryz.prog 21 #[v] w fun e w' => e = .returned (.tuple #[.string (printF ws zs mk), .int .i64 0]) ∧ Below w.heap.size w w' := by
  have HC := Lib.hid (fun W (h : IsClue W v ws zs mk) => Check_any v ws zs mk W h h1 h2 h3 h4)
  have hcl := hc
  obtain ⟨A, n, c, B, m, d, rfl, ha, hb, k1, k2, k3, k4, hn, hm⟩ := hc.ex
  have hg0 := heap_alloc_new w (.cells #[.slice A n c, .slice B m d, .string mk] 26)
  have hb0 : Below w.heap.size w (w.alloc (.cells #[.slice A n c, .slice B m d, .string mk] 26)) := (Below.refl _ _).alloc (Nat.le_refl _) _
  have hcl2 := hcl.keep hb0
  obtain ⟨hok, hmz, _, hwb⟩ := check_ok hz
  have hn12 : 1 ≤ n ∧ n ≤ 12 := by
    unfold wordsBad at hwb
    simp only [Bool.or_eq_false_iff, decide_eq_false_iff_not] at hwb
    omega
  have hne : ws ≠ [] := fun e => by rw [e] at hn; simp at hn; omega
  have hJ := joinS_size ws 4294967296 h4
  have hJs : (joinS ws).size ≤ 51539607564 := by
    have : (4294967296 + 1) * ws.length ≤ (4294967296 + 1) * 12 := Nat.mul_le_mul_left _ (by omega)
    omega
  have HJn := Lib.hid (fun W (h : Rd W 1 A n (ws.map eS)) => Join_any A n c ws W h k1 (by omega) (by omega))
  obtain ⟨P, hP⟩ : ∃ P, printF ws zs mk = P := ⟨_, rfl⟩
  rw [hP]
  rw [← print_join ws zs mk hne] at hP
  generalize joinS ws = J at hJs HJn hP
  have HP := Lib.hid hP
  rw [hz] at HC
  have HO := Lib.hid (okZ_sum hok).1
  have hsJ : (J ++ ⟨#[32, 40]⟩).size ≤ 51539607566 := by rw [ByteArray.size_append]; have : (⟨#[32, 40]⟩ : ByteArray).size = 2 := rfl; omega
  clear h4 hc hz hwb hJ hP hok hne
  go_enter Tryz.func21, Tryz.ntmps21
  go_wp2_with (first
    | (refine wpList_load_row rfl 26 _ rfl w.heap.size rfl 26 _ (0, 0) _ hg0 Tryz.underlying26 rfl rfl ?_)
    | (go_at_call 11; refine (HC.out _ hcl2).mono ?_; rintro e w2 ⟨rfl, hb2⟩; have g2 := heap_alloc_keep ((hb2.block _ (heap_lt hg0)).trans hg0) (.cells #[.pointer none, .slice none 0 0] 74); have c02 := cell_of_row _ _ 0 _ _ _ g2; have hbw2 := below_then hb0 hb0.size hb2; have hI0 := Lib.IsBuilderF.of (Lib.fresh_isBuilder 74 5 w2); have hba : Below w2.heap.size w2 (w2.alloc (.cells #[.pointer none, .slice none 0 0] 74)) := (Below.refl _ _).alloc (Nat.le_refl _) _; have ha2 := ((ha.keep hb0).keep hb2).keep hba)
    | (go_at_call 54; refine (HJn.out _ ha2).mono ?_; rintro e w3 ⟨rfl, hb3⟩; have hI3 := builder_keep hI0 hb3; have hb23 := below_then hba (by simp) hb3)
    | (go_at_call 49; have hws := WriteString_any w2.heap.size w2.heap.size _ J _ hI3 (by simp; omega) hb23.size; (with_reducible refine hws.mono ?_); clear hws; rintro e w4 ⟨rfl, hI4, hb4, hk4⟩; have hb24 := hb23.trans hb4)
    | (go_at_call 49; have hws := WriteString_any w2.heap.size w2.heap.size _ ⟨#[32, 40]⟩ _ (.inr hI4) (by simp [Lib.strCells_length]; have : (⟨#[32, 40]⟩ : ByteArray).size = 2 := rfl; omega) hb24.size; (with_reducible refine hws.mono ?_); clear hws; rintro e w5 ⟨rfl, hI5, hb5, hk5⟩; have hb25 := hb24.trans hb5; have g5 := (hb25.block _ (heap_lt ((hb2.block _ (heap_lt hg0)).trans hg0))).trans ((hb2.block _ (heap_lt hg0)).trans hg0); have c15 := cell_of_row w5 _ 1 _ _ _ g5))
  have hI5' : Lib.IsBuilderF 74 5 w2.heap.size w2.heap.size (Lib.strCells (J ++ ⟨#[32, 40]⟩)) w5 := by
    rw [strCells_append]
    exact .inr hI5
  generalize J ++ ⟨#[32, 40]⟩ = J2 at HP hsJ hI5'
  have hbz5 := (((hb.keep hb0).keep hb2).below hb25 (Nat.le_refl _))
  clear hI3 hI4 hI5 hI0
  go_loopw [21] (fun i wr => ∃ (k : Nat) (out : ByteArray), i = .int .i64 k ∧ k ≤ m ∧ Lib.IsBuilderF 74 5 w2.heap.size w2.heap.size (Lib.strCells out) wr ∧ out ++ (sizesT mk k (zs.drop k) ++ ⟨#[41]⟩) = P ∧ out.size ≤ 51539607566 + 30 * k ∧ Below w2.heap.size w2 wr) (fun i _ => m - (intOf i).toNat)
  case atStart => exact ⟨0, J2, rfl, Nat.zero_le _, hI5', HP.out, by omega, hb25⟩
  case round =>
    obtain ⟨k, out, rfl, hk, hI, hacc, hos, hbr⟩ := hrel
    have hszr := hbr.size
    have hgr := (hbr.block _ (heap_lt ((hb2.block _ (heap_lt hg0)).trans hg0))).trans ((hb2.block _ (heap_lt hg0)).trans hg0)
    have d2 := cell_of_row wr _ 2 _ _ _ hgr
    have hsl : (Lib.strCells out).length = out.size := Lib.strCells_length out
    have HSl := Lib.hid hsl
    clear hsl
    by_cases hlt : k < m
    · obtain ⟨b, o, z, rfl, hx, hcx⟩ := (((hb.keep hb0).keep hb2).below hbr (Nat.le_refl _)).at1 hlt
      obtain ⟨hz1, hz2⟩ := HO.out z (List.mem_of_getElem? hx)
      obtain ⟨zn, rfl⟩ : ∃ zn : Nat, z = (zn : Int) := ⟨z.toNat, by omega⟩
      rw [drop_cons hx] at hacc
      simp only [sizesT, Int.toNat_natCast] at hacc
      unfold eZ at hcx
      have hdz : (decS zn).size ≤ 25 := by have := decS_size zn; have := nDigits_le zn; omega
      have HD := Lib.hid (fun W => (show Calls Tryz.prog 58 #[.int .i64 zn] W fun e w' => e = .returned (.string (decS zn)) ∧ W = w' from (Tryz.strconv_Itoa_small zn (by omega) W).mono fun e w' h => ⟨h.1, h.2.symm⟩))
      have HDl := Lib.hid (Lib.strCells_length (decS zn))
      generalize decS zn = D at hacc hdz HD HDl
      rcases Nat.eq_zero_or_pos k with h0 | h0
      · subst h0
        rw [if_neg (by omega), ByteArray.empty_append, ByteArray.append_assoc, ← ByteArray.append_assoc] at hacc
        have Hacc := Lib.hid hacc
        simp only [Nat.add_zero] at hcx
        clear hacc hx
        go_wp2_with (first
          | (go_at_call 58; refine (HD.out _).mono ?_; rintro e w' ⟨rfl, rfl⟩)
          | (go_at_call 49; have hws := WriteString_any w2.heap.size w2.heap.size _ D _ hI (by have := HSl.out; omega) hszr; (with_reducible refine hws.mono ?_); clear hws; rintro e w6 ⟨rfl, hI6, hb6, hk6⟩; have hbr6 := hbr.trans hb6))
        go_roundw
        case rel => exact ⟨1, out ++ D, by go_num, by omega, by rw [strCells_append]; exact .inr hI6, Hacc.out, by rw [ByteArray.size_append]; omega, hbr6⟩
        case measure => simp [intOf] <;> omega
      · obtain ⟨k3, rfl⟩ : ∃ k3, k = k3 + 1 := ⟨k - 1, by omega⟩
        have hbb := get_bang mk k3
        have hsc := strCells_one mk k3 (by omega)
        have hx1 : (mk.extract k3 (k3 + 1)).size = 1 := by rw [ByteArray.size_extract]; omega
        rw [if_pos (by omega), ByteArray.append_assoc, ByteArray.append_assoc, ← ByteArray.append_assoc, ← ByteArray.append_assoc] at hacc
        simp only [Nat.add_sub_cancel] at hacc
        generalize (mk.get! k3).toNat = Bm at hbb hsc
        have Hacc := Lib.hid hacc
        have Hsc := Lib.hid hsc
        have Hx1 := Lib.hid hx1
        clear hacc hx hsc hx1
        go_wp2_with (first
          | (go_at_call 58; refine (HD.out _).mono ?_; rintro e w' ⟨rfl, rfl⟩)
          | (go_at_call 57; have hws := WriteByte_any w2.heap.size w2.heap.size _ (Bm : Int) _ hI (by have := HSl.out; omega) hszr; (with_reducible refine hws.mono ?_); clear hws; rintro e w5 ⟨rfl, hI5, hb5, hk5⟩; have hbr5 := hbr.trans hb5)
          | (go_at_call 49; have hws := WriteString_any w2.heap.size w2.heap.size _ D _ (.inr hI5) (by have := HSl.out; simp; omega) hbr5.size; (with_reducible refine hws.mono ?_); clear hws; rintro e w6 ⟨rfl, hI6, hb6, hk6⟩; have hbr6 := hbr5.trans hb6))
        go_roundw
        case rel => exact ⟨k3 + 2, out ++ mk.extract k3 (k3 + 1) ++ D, by go_num, by omega, by rw [strCells_append, strCells_append, Hsc.out]; exact .inr hI6, Hacc.out, by simp only [ByteArray.size_append, Hx1.out]; omega, hbr6⟩
        case measure => simp [intOf] <;> omega
    · rw [List.drop_of_length_le (by omega)] at hacc
      simp only [sizesT, ByteArray.empty_append] at hacc
      have Hacc := Lib.hid hacc
      clear hacc
      go_wp2_with (first
        | (go_at_call 57; have hws := WriteByte_any w2.heap.size w2.heap.size _ 41 _ hI (by have := HSl.out; omega) hszr; (with_reducible refine hws.mono ?_); clear hws; rintro e w5 ⟨rfl, hI5, hb5, hk5⟩; have hbr5 := hbr.trans hb5; have hIP : Lib.IsBuilderF 74 5 w2.heap.size w2.heap.size (Lib.byteCells P.data.toList) w5 := (by rw [← Hacc.out]; show Lib.IsBuilderF _ _ _ _ (Lib.strCells (out ++ ⟨#[41]⟩)) _; rw [strCells_append]; exact .inr hI5))
        | (go_at_call 53; have hws := BString_any w2.heap.size w2.heap.size P.data.toList _ hIP hbr5.size; rw [bytes_back] at hws; (with_reducible refine hws.mono ?_); clear hws; rintro e w6 ⟨rfl, hI6, hb6, hk6⟩; have hbr6 := hbr5.trans hb6))
      go_ret2
      exact ⟨rfl, below_then hbw2 hbw2.size hbr6⟩
end Go.Proofs.YtbjgfjmknnbahaaGreatDoor

/- Plain Lean: what is printed is read back. -/
set_option linter.unusedVariables false
set_option linter.unusedSimpArgs false
namespace Go.Proofs.YtbjgfjmknnbahaaGreatDoor
open Go.RowKit

/-- The decimals of the sizes: one byte or two. -/
theorem decS_two {z : Nat} (h1 : 1 ≤ z) (h2 : z ≤ 24) : (∃ b : UInt8, decS z = ⟨#[b]⟩ ∧ 49 ≤ b.toNat ∧ b.toNat ≤ 57 ∧ z = b.toNat - 48) ∨ (∃ b c : UInt8, decS z = ⟨#[b, c]⟩ ∧ 49 ≤ b.toNat ∧ b.toNat ≤ 57 ∧ 48 ≤ c.toNat ∧ c.toNat ≤ 57 ∧ z = (b.toNat - 48) * 10 + (c.toNat - 48)) := by
  by_cases h : z < 10
  · left
    refine ⟨UInt8.ofNat (48 + z), ?_, ?_⟩
    · rw [decS_small h]
      unfold strOfNums
      simp only [List.map_cons, List.map_nil]
      rw [byte_of (48 + (z : Int)) (48 + z) (by omega)]
    · rw [UInt8.toNat_ofNat']
      omega
  · right
    refine ⟨UInt8.ofNat (48 + z / 10), UInt8.ofNat (48 + z % 10), ?_, ?_⟩
    · rw [decS_big h, decS_small (by omega)]
      unfold strOfNums
      simp only [List.map_cons, List.map_nil]
      rw [byte_of (48 + ((z / 10 : Nat) : Int)) (48 + z / 10) (by omega), byte_of (48 + (z : Int) % 10) (48 + z % 10) (by omega)]
      rfl
    · rw [UInt8.toNat_ofNat', UInt8.toNat_ofNat']
      omega
theorem cutJ_at (t : ByteArray) (j : Nat) (hj : j ≤ t.size) (h1 : ∀ x, x < j → (t.get! x).toNat ≠ 44 ∧ (t.get! x).toNat ≠ 45) (h2 : j < t.size → (t.get! j).toNat = 44 ∨ (t.get! j).toNat = 45) : cutJ t = j := by
  obtain ⟨c1, c2, c3⟩ := cutJ_spec t
  rcases Nat.lt_trichotomy (cutJ t) j with h | h | h
  · have := h1 _ h
    have := c3 (by omega)
    omega
  · exact h
  · have := c2 _ h
    have := h2 (by omega)
    omega
/-- One size, and what follows it. -/
theorem piece_read {z : Nat} (h1 : 1 ≤ z) (h2 : z ≤ 24) (tail : ByteArray) (ht : 0 < tail.size → (tail.get! 0).toNat = 44 ∨ (tail.get! 0).toNat = 45) :
    cutJ (decS z ++ tail) = (decS z).size ∧ Lib.atoiAll ((decS z ++ tail).extract 0 (decS z).size).data.toList = .ok (z : Int) ∧ (decS z).size ≤ 2 ∧ 49 ≤ ((decS z ++ tail).get! 0).toNat ∧ ((decS z ++ tail).get! 0).toNat ≤ 57 := by
  have hx : (decS z ++ tail).extract 0 (decS z).size = decS z := ByteArray.extract_append_eq_left rfl
  have hsep : (decS z).size < (decS z ++ tail).size → ((decS z ++ tail).get! (decS z).size).toNat = 44 ∨ ((decS z ++ tail).get! (decS z).size).toNat = 45 := by
    intro h
    rw [ByteArray.size_append] at h
    have := bang_right (decS z) tail 0 (by omega)
    rw [Nat.add_zero (decS z).size] at this
    rw [this]
    exact ht (by omega)
  have hle : (decS z).size ≤ (decS z ++ tail).size := by rw [ByteArray.size_append]; omega
  rw [hx]
  rcases decS_two h1 h2 with ⟨b, hb, h3, h4, h5⟩ | ⟨b, c, hb, h3, h4, h5, h6, h7⟩
  · have hs : (decS z).size = 1 := by rw [hb]; rfl
    have hg : ∀ x, x < 1 → (decS z ++ tail).get! x = b := by
      intro x hx
      obtain rfl : x = 0 := by omega
      rw [bang_left _ _ _ (by omega), hb]
      rfl
    refine ⟨cutJ_at _ _ hle (fun x hx => by rw [hg x (by omega)]; omega) hsep, ?_, by omega, by rw [hg 0 (by omega)]; exact h3, by rw [hg 0 (by omega)]; exact h4⟩
    rw [hb]
    show Lib.atoiAll [b] = _
    rw [atoi_1 b h3 h4, h5]
  · have hs : (decS z).size = 2 := by rw [hb]; rfl
    have hg0 : (decS z ++ tail).get! 0 = b := by rw [bang_left _ _ _ (by omega), hb]; rfl
    have hg1 : (decS z ++ tail).get! 1 = c := by rw [bang_left _ _ _ (by omega), hb]; rfl
    refine ⟨cutJ_at _ _ hle (fun x hx => ?_) hsep, ?_, by omega, by rw [hg0]; exact h3, by rw [hg0]; exact h4⟩
    · rcases (show x = 0 ∨ x = 1 by omega) with rfl | rfl
      · rw [hg0]; omega
      · rw [hg1]; omega
    · rw [hb]
      show Lib.atoiAll [b, c] = _
      rw [atoi_2 b c h3 h4 h5 h6, h7]
theorem mark_at {mk : ByteArray} (h : marksOk mk = true) (k : Nat) (hk : k < mk.size) : (mk.get! k).toNat = 44 ∨ (mk.get! k).toNat = 45 := by
  unfold marksOk at h
  rw [List.all_eq_true] at h
  have := h _ (List.mem_of_getElem? (get_bang_list mk k hk))
  simp only [Bool.or_eq_true, beq_iff_eq] at this
  rcases this with h1 | h1
  · left; rw [h1]; rfl
  · right; rw [h1]; rfl
theorem sizes_read (mk : ByteArray) (hm : marksOk mk = true) : ∀ (zs : List Int) (z : Int) (k f : Nat) (l : List Nat) (mk' : ByteArray), 1 ≤ z → z ≤ 24 → (∀ y ∈ zs, 1 ≤ y ∧ y ≤ 24) → k + zs.length = mk.size → okN (l ++ ((z :: zs).map Int.toNat)) = true → (decS z.toNat ++ sizesT mk (k + 1) zs).size < f →
    sizesG f (decS z.toNat ++ sizesT mk (k + 1) zs) l mk' = some (l ++ ((z :: zs).map Int.toNat), mk' ++ mk.extract k mk.size)
  | [], z, k, f, l, mk', h1, h2, _, hk, hok, hf => by
    obtain ⟨f, rfl⟩ : ∃ f', f = f' + 1 := ⟨f - 1, by omega⟩
    obtain ⟨p1, p2, p3, p4, p5⟩ := piece_read (z := z.toNat) (by omega) (by omega) ByteArray.empty (fun h => by simp at h)
    simp only [List.map_cons, List.map_nil] at hok
    rw [sizesT, sizesG, p1, p2]
    simp only
    rw [if_neg (by omega), if_neg (by simp), Int.toNat_natCast, if_pos hok]
    have : mk.extract k mk.size = ByteArray.empty := by rw [ByteArray.extract_eq_empty_iff]; simp at hk; omega
    rw [this, ByteArray.append_empty]
    rfl
  | y :: zs, z, k, f, l, mk', h1, h2, hz, hk, hok, hf => by
    obtain ⟨f, rfl⟩ : ∃ f', f = f' + 1 := ⟨f - 1, by omega⟩
    obtain ⟨hy1, hy2⟩ := hz y (by simp)
    simp only [List.length_cons] at hk
    have hT : sizesT mk (k + 1) (y :: zs) = mk.extract k (k + 1) ++ (decS y.toNat ++ sizesT mk (k + 2) zs) := by
      rw [sizesT, if_pos (by omega), Nat.add_sub_cancel]
    have hx1 : (mk.extract k (k + 1)).size = 1 := by rw [ByteArray.size_extract]; omega
    have hm0 := mark_at hm k (by omega)
    have ht0 : ((mk.extract k (k + 1)) ++ (decS y.toNat ++ sizesT mk (k + 2) zs)).get! 0 = mk.get! k := by
      rw [bang_left _ _ _ (by omega)]
      have := bang_extract mk k (k + 1) 0 (by omega) (by omega)
      exact this
    obtain ⟨p1, p2, p3, p4, p5⟩ := piece_read (z := z.toNat) (by omega) (by omega) (mk.extract k (k + 1) ++ (decS y.toNat ++ sizesT mk (k + 2) zs)) (fun _ => by rw [ht0]; exact hm0)
    rw [hT] at hf ⊢
    rw [sizesG, p1, p2]
    simp only
    rw [if_neg (by omega), if_pos (by rw [ByteArray.size_append, ByteArray.size_append, hx1]; omega), Int.toNat_natCast]
    have e1 : (decS z.toNat ++ (mk.extract k (k + 1) ++ (decS y.toNat ++ sizesT mk (k + 2) zs))).extract ((decS z.toNat).size + 1) (decS z.toNat ++ (mk.extract k (k + 1) ++ (decS y.toNat ++ sizesT mk (k + 2) zs))).size = decS y.toNat ++ sizesT mk (k + 2) zs := by
      rw [← ByteArray.append_assoc]
      refine ByteArray.extract_append_eq_right ?_ ?_
      · rw [ByteArray.size_append, hx1]
      · rw [ByteArray.size_append]
    have e2 : (decS z.toNat ++ (mk.extract k (k + 1) ++ (decS y.toNat ++ sizesT mk (k + 2) zs))).extract (decS z.toNat).size ((decS z.toNat).size + 1) = mk.extract k (k + 1) := by
      rw [ByteArray.extract_append]
      have a1 : (decS z.toNat).extract (decS z.toNat).size ((decS z.toNat).size + 1) = ByteArray.empty := by rw [ByteArray.extract_eq_empty_iff]; omega
      rw [a1, ByteArray.empty_append, show (decS z.toNat).size - (decS z.toNat).size = 0 by omega, show (decS z.toNat).size + 1 - (decS z.toNat).size = (mk.extract k (k + 1)).size by omega]
      exact ByteArray.extract_append_eq_left rfl
    rw [e1, e2]
    have hf2 : (decS y.toNat ++ sizesT mk (k + 2) zs).size < f := by
      rw [ByteArray.size_append, ByteArray.size_append, hx1] at hf
      omega
    rw [sizes_read mk hm zs y (k + 1) f _ _ hy1 hy2 (fun w hw => hz w (List.mem_cons_of_mem _ hw)) (by omega) (by rw [List.append_assoc]; exact hok) hf2]
    rw [List.append_assoc, ByteArray.append_assoc, extract_join mk k (k + 1) mk.size (by omega) (by omega)]
    rfl
/-- The bytes of the sizes: no bracket that opens. -/
theorem sizes_bytes (mk : ByteArray) (hm : marksOk mk = true) : ∀ (zs : List Int) (k : Nat), (∀ y ∈ zs, 1 ≤ y ∧ y ≤ 24) → k + zs.length ≤ mk.size + 1 → ∀ j, j < (sizesT mk k zs).size → ((sizesT mk k zs).get! j).toNat ≠ 40
  | [], k, _, _, j, hj => by simp [sizesT] at hj
  | z :: zs, k, hz, hk, j, hj => by
    obtain ⟨h1, h2⟩ := hz z (by simp)
    simp only [List.length_cons] at hk
    have ih := sizes_bytes mk hm zs (k + 1) (fun y hy => hz y (List.mem_cons_of_mem _ hy)) (by omega)
    have hd : ∀ x, x < (decS z.toNat).size → ((decS z.toNat).get! x).toNat ≠ 40 := by
      intro x hx
      rcases decS_two (z := z.toNat) (by omega) (by omega) with ⟨b, hb, h3, h4, h5⟩ | ⟨b, c, hb, h3, h4, h5, h6, h7⟩
      · rw [hb] at hx ⊢
        obtain rfl : x = 0 := by have : (⟨#[b]⟩ : ByteArray).size = 1 := rfl; omega
        show b.toNat ≠ 40
        omega
      · rw [hb] at hx ⊢
        have : (⟨#[b, c]⟩ : ByteArray).size = 2 := rfl
        rcases (show x = 0 ∨ x = 1 by omega) with rfl | rfl
        · show b.toNat ≠ 40
          omega
        · show c.toNat ≠ 40
          omega
    have hX : ∀ x, x < (if 0 < k then mk.extract (k - 1) k else ByteArray.empty).size → ((if 0 < k then mk.extract (k - 1) k else ByteArray.empty).get! x).toNat ≠ 40 := by
      intro x hx
      split at hx
      · rename_i h0
        rw [if_pos h0]
        rw [ByteArray.size_extract] at hx
        obtain rfl : x = 0 := by omega
        rw [bang_extract mk (k - 1) k 0 (by omega) (by omega)]
        have := mark_at hm (k - 1 + 0) (by omega)
        omega
      · simp at hx
    rw [sizesT] at hj ⊢
    generalize (if 0 < k then mk.extract (k - 1) k else ByteArray.empty) = X at hj hX ⊢
    rw [ByteArray.size_append, ByteArray.size_append] at hj
    rcases Nat.lt_or_ge j X.size with h | h
    · rw [bang_left _ _ _ h]
      exact hX j h
    · obtain ⟨i, rfl⟩ : ∃ i, j = X.size + i := ⟨j - X.size, by omega⟩
      rw [bang_right _ _ _ (by rw [ByteArray.size_append]; omega)]
      rcases Nat.lt_or_ge i (decS z.toNat).size with h' | h'
      · rw [bang_left _ _ _ h']
        exact hd i h'
      · obtain ⟨i', rfl⟩ : ∃ i', i = (decS z.toNat).size + i' := ⟨i - (decS z.toNat).size, by omega⟩
        rw [bang_right _ _ _ (by omega)]
        exact ih i' (by omega)
theorem pieces_sp_cons (b : ByteArray) : pieces (sp ++ b) = (32, sp) :: pieces b := by
  have hs : sp.size = 1 := rfl
  have h0 : ((sp ++ b).get! 0).toNat = 32 := by rw [bang_left _ _ _ (by decide)]; rfl
  have hd := decode_lo (sp ++ b) 0 (by omega)
  rw [h0] at hd
  have hc := pieces_cons (sp ++ b) (by rw [ByteArray.size_append]; omega)
  rw [hd] at hc
  simp only at hc
  have e1 : (sp ++ b).extract 0 1 = sp := ByteArray.extract_append_eq_left rfl
  have e2 : (sp ++ b).extract 1 (sp ++ b).size = b := by
    rw [ByteArray.size_append]
    exact ByteArray.extract_append_eq_right rfl (by rw [hs])
  rw [e1, e2] at hc
  exact hc
/-- The words of a clue's words, each with a space behind it. -/
theorem words_print : ∀ ws : List ByteArray, (∀ x ∈ ws, Solid (pieces x) ∧ pieces x ≠ []) → wordsP (pieces (wordsT ws)) none = ws
  | [], _ => rfl
  | x :: l, h => by
    obtain ⟨h1, h2⟩ := h x (by simp)
    have ih := words_print l (fun y hy => h y (List.mem_cons_of_mem _ hy))
    have e : wordsT (x :: l) = x ++ (sp ++ wordsT l) := rfl
    rw [e, pieces_append x _ (starts_sp _), pieces_sp_cons, wordsP_first _ _ h1 h2, pieces_glue, wordsP]
    simp only [blank32, if_true]
    rw [ih]
theorem word_ok {x : ByteArray} (h : oddT x = false) : Solid (pieces x) ∧ pieces x ≠ [] ∧ neW x = true := by
  unfold oddT at h
  simp only [Bool.or_eq_false_iff, Bool.not_eq_false'] at h
  refine ⟨noBlank_solid h.1, fun e => ?_, h.2⟩
  have hx : x = ByteArray.empty := by rw [← pieces_glue x, e]; rfl
  have := neW_true h.2
  rw [hx] at this
  exact this rfl
/-- What is printed is read back. -/
theorem parse_print {ws : List ByteArray} {zs : List Int} {mk : ByteArray} (hc : checkF ws zs mk = 0) (hs : (printF ws zs mk).size ≤ 65536) : parseF (printF ws zs mk) = (ws, zs.map Int.toNat, mk, 0, 0) := by
  obtain ⟨hok, hmz, hm, hwb⟩ := check_ok hc
  obtain ⟨o1, o2, o3, o4⟩ := okZ_sum hok
  unfold wordsBad at hwb
  simp only [Bool.or_eq_false_iff, decide_eq_false_iff_not, List.any_eq_false] at hwb
  have hwo : ∀ x ∈ ws, oddT x = false := fun x hx => by have := hwb.2 x hx; simpa using this
  have hsb := sizes_bytes mk hm zs 0 o1 (by omega)
  obtain ⟨z, zs', rfl⟩ : ∃ z zs', zs = z :: zs' := by
    cases zs with
    | nil => simp at hmz
    | cons z zs' => exact ⟨z, zs', rfl⟩
  have hT0 : sizesT mk 0 (z :: zs') = decS z.toNat ++ sizesT mk 1 zs' := by
    rw [sizesT, if_neg (by omega), ByteArray.empty_append]
  have hsr : sizesF (sizesT mk 0 (z :: zs')) = some ((z :: zs').map Int.toNat, mk) := by
    rw [← sizesG_all, hT0]
    obtain ⟨hz1, hz2⟩ := o1 z (by simp)
    have hokN : okN ([] ++ ((z :: zs').map Int.toNat)) = true := by
      rw [List.nil_append, okN_iff]
      refine ⟨fun x hx => ?_, o2, o4⟩
      obtain ⟨y, hy, rfl⟩ := List.mem_map.1 hx
      have := o1 y hy
      omega
    have := sizes_read mk hm zs' z 0 ((decS z.toNat ++ sizesT mk 1 zs').size + 1) [] ByteArray.empty hz1 hz2 (fun y hy => o1 y (List.mem_cons_of_mem _ hy)) (by simp at hmz; omega) hokN (Nat.lt_succ_self _)
    rw [this, List.nil_append, ByteArray.empty_append, ByteArray.extract_zero_size]
  generalize hZ : sizesT mk 0 (z :: zs') = Z at hsb hsr hs
  have hP : printF ws (z :: zs') mk = wordsT ws ++ (⟨#[40]⟩ ++ (Z ++ ⟨#[41]⟩)) := by unfold printF; rw [hZ]
  rw [hP] at hs ⊢
  have hW := words_print ws (fun x hx => ⟨(word_ok (hwo x hx)).1, (word_ok (hwo x hx)).2.1⟩)
  rw [← wordsL_P] at hW
  generalize wordsT ws = W at hs hW ⊢
  obtain ⟨P, hPP⟩ : ∃ P, W ++ (⟨#[40]⟩ ++ (Z ++ ⟨#[41]⟩)) = P := ⟨_, rfl⟩
  have h40 : (⟨#[40]⟩ : ByteArray).size = 1 := rfl
  have h41 : (⟨#[41]⟩ : ByteArray).size = 1 := rfl
  have hPs : P.size = W.size + Z.size + 2 := by rw [← hPP]; simp only [ByteArray.size_append, h40, h41]; omega
  have b0 : (P.get! W.size).toNat = 40 := by
    rw [← hPP]
    have := bang_right W (⟨#[40]⟩ ++ (Z ++ ⟨#[41]⟩)) 0 (by simp only [ByteArray.size_append, h40]; omega)
    rw [Nat.add_zero W.size] at this
    rw [this, bang_left _ _ _ (by decide)]
    rfl
  have bz : ∀ j, j < Z.size → (P.get! (W.size + (1 + j))).toNat ≠ 40 := by
    intro j hj
    rw [← hPP, bang_right _ _ _ (by simp only [ByteArray.size_append, h40]; omega)]
    have := bang_right (⟨#[40]⟩ : ByteArray) (Z ++ ⟨#[41]⟩) j (by simp only [ByteArray.size_append]; omega)
    rw [h40] at this
    rw [this, bang_left _ _ _ hj]
    exact hsb j hj
  have be : (P.get! (P.size - 1)).toNat = 41 := by
    rw [hPs, show W.size + Z.size + 2 - 1 = W.size + (1 + Z.size) by omega, ← hPP, bang_right _ _ _ (by simp only [ByteArray.size_append, h40, h41]; omega)]
    have h1 := bang_right (⟨#[40]⟩ : ByteArray) (Z ++ ⟨#[41]⟩) Z.size (by simp only [ByteArray.size_append, h41]; omega)
    rw [h40] at h1
    rw [h1]
    have h2 := bang_right Z (⟨#[41]⟩ : ByteArray) 0 (by decide)
    rw [Nat.add_zero Z.size] at h2
    rw [h2]
    rfl
  rw [hPP] at hs ⊢
  -- the runes: the last one closes, the last bracket that opens stands behind the words
  have hn0 : 0 < (runes P).length := by
    rcases Nat.eq_zero_or_pos (runes P).length with h | h
    · have := place_end P
      rw [h, place_zero] at this
      omega
    · exact h
  obtain ⟨n, hn⟩ : ∃ n, (runes P).length = n + 1 := ⟨(runes P).length - 1, by omega⟩
  have hpe : place P (n + 1) = P.size := by rw [← hn]; exact place_end P
  have hpl := place_last P n (by omega) (by rw [hpe, be]; decide)
  rw [hpe] at hpl
  obtain ⟨q1, q2, q3⟩ := place_step P n (by omega)
  rw [decode_lo P (place P n) (by rw [show place P n = P.size - 1 by omega, be]; decide), show place P n = P.size - 1 by omega, be] at q1
  simp only at q1
  have hend : endL (runes P) (runes P).length = n + 1 := by
    rw [hn, endL_succ, q1, if_neg (by decide)]
  have hlast : Lib.lastIdx P 40 P.size = (W.size : Int) := by
    have h1 := lastIdx_skip P (W.size + 1) (Z.size + 1) (fun x hx => by
      rcases Nat.lt_or_ge x Z.size with h | h
      · rw [Nat.add_assoc]; exact bz x h
      · rw [show W.size + 1 + x = P.size - 1 by omega, be]; decide)
    rw [show W.size + 1 + (Z.size + 1) = P.size by omega] at h1
    rw [h1]
    exact Lib.lastIdx_hit P 40 W.size (by show ((P.get! W.size).toNat : Int) = 40; rw [b0]; rfl)
  have hos := open_scan P (runes P).length (Nat.le_refl _)
  rw [place_end, hlast] at hos
  unfold parseF parseL
  rw [if_neg (by omega), hend]
  rw [hn] at hos
  cases hop : openL (runes P) (n + 1) with
  | none => rw [hop] at hos; simp [opI] at hos
  | some o =>
    rw [hop] at hos
    simp only [opI] at hos
    have hol := (openL_lt (runes P) (n + 1) o hop).1
    simp only
    rw [if_neg (show ¬ (n + 1 = 0 ∨ (runes P).getD (n + 1 - 1) 0 ≠ 41) by rw [Nat.add_sub_cancel, q1]; simp)]
    have hps : ∀ k, k < (runes P).length → ((seqs P).map (·.1)).getD k 0 = place P k := by
      intro k h
      unfold place
      have : k < ((seqs P).map (·.1)).length := by simpa [runes] using h
      rw [List.getD_eq_getElem?_getD, List.getD_eq_getElem?_getD, List.getElem?_eq_getElem this]
      rfl
    rw [hps o (by omega), Nat.add_sub_cancel, hps n (by omega)]
    have ho : place P o = W.size := by omega
    rw [ho, show place P n = P.size - 1 by omega]
    have ex1 : P.extract (W.size + 1) (P.size - 1) = Z := by
      rw [hPs, ← hPP, ← ByteArray.append_assoc]
      rw [ByteArray.extract_append]
      have a1 : (W ++ (⟨#[40]⟩ : ByteArray)).size = W.size + 1 := by rw [ByteArray.size_append, h40]
      have a2 : (W ++ (⟨#[40]⟩ : ByteArray)).extract (W.size + 1) (W.size + Z.size + 2 - 1) = ByteArray.empty := by rw [ByteArray.extract_eq_empty_iff, a1]; omega
      rw [a2, a1, ByteArray.empty_append, show W.size + 1 - (W.size + 1) = 0 by omega, show W.size + Z.size + 2 - 1 - (W.size + 1) = Z.size by omega]
      exact ByteArray.extract_append_eq_left rfl
    have ex2 : P.extract 0 W.size = W := by rw [← hPP]; exact ByteArray.extract_append_eq_left rfl
    unfold parseTail
    rw [ex1, hsr, ex2, hW]
    simp only
    have hkw : keepW ws = ws := by
      unfold keepW
      rw [List.filter_eq_self]
      exact fun x hx => (word_ok (hwo x hx)).2.2
    unfold parseEnd
    rw [hkw, if_neg (by omega)]
end Go.Proofs.YtbjgfjmknnbahaaGreatDoor

/- Contract: rebusref16.Print. -/
set_option linter.unusedVariables false
set_option linter.unusedSimpArgs false
namespace Go.Proofs.YtbjgfjmknnbahaaGreatDoor
open Go.RowKit

set_option maxHeartbeats 4000000 in
set_option maxRecDepth 100000 in
theorem RefPrint_bad (v : Value) (ws : List ByteArray) (zs : List Int) (mk : ByteArray) (w : World) (hc : IsClue w v ws zs mk) (h1 : ws.length ≤ 4294967296) (h2 : zs.length ≤ 4294967296) (h3 : mk.size ≤ 4294967296) (h4 : ∀ x ∈ ws, x.size ≤ 4294967296) (hz : checkF ws zs mk ≠ 0) :
    Calls Tryz.prog 22 #[v] w fun e w' => e = .returned (.tuple #[.string ByteArray.empty, .int .i64 (checkF ws zs mk : Nat)]) ∧ Below w.heap.size w w' := by
  have HC := Lib.hid (fun W (h : IsClue W v ws zs mk) => RefCheck_any v ws zs mk W h h1 h2 h3 h4)
  have hcl := hc
  obtain ⟨A, n, c, B, m, d, rfl, ha, hb, k1, k2, k3, k4, hn, hm⟩ := hc.ex
  have hg0 := heap_alloc_new w (.cells #[.slice A n c, .slice B m d, .string mk] 26)
  have hb0 : Below w.heap.size w (w.alloc (.cells #[.slice A n c, .slice B m d, .string mk] 26)) := (Below.refl _ _).alloc (Nat.le_refl _) _
  have hcl2 := hcl.keep hb0
  clear h4 hc
  generalize checkF ws zs mk = q at hz HC ⊢
  have hq : ((q : Int) != 0) = true := by simp; omega
  clear hz
  go_enter Tryz.func22, Tryz.ntmps22
  go_wp2_with (first
    | (refine wpList_load_row rfl 26 _ rfl w.heap.size rfl 26 _ (0, 0) _ hg0 Tryz.underlying26 rfl rfl ?_)
    | (go_at_call 45; refine (HC.out _ hcl2).mono ?_; rintro e w2 ⟨rfl, hb2⟩))
  go_ret2
  exact ⟨rfl, below_then hb0 hb0.size hb2⟩

set_option maxHeartbeats 4000000 in
set_option maxRecDepth 100000 in
theorem RefPrint_good (v : Value) (ws : List ByteArray) (zs : List Int) (mk : ByteArray) (w : World) (hc : IsClue w v ws zs mk) (h1 : ws.length ≤ 4294967296) (h2 : zs.length ≤ 4294967296) (h3 : mk.size ≤ 4294967296) (h4 : ∀ x ∈ ws, x.size ≤ 4294967296) (hz : checkF ws zs mk = 0) :
    Calls Tryz.prog 22 #[v] w fun e w' => e = .returned (.tuple #[.string (printF ws zs mk), .int .i64 0]) ∧ Below w.heap.size w w' := by
  have HC := Lib.hid (fun W (h : IsClue W v ws zs mk) => RefCheck_any v ws zs mk W h h1 h2 h3 h4)
  have hcl := hc
  obtain ⟨A, n, c, B, m, d, rfl, ha, hb, k1, k2, k3, k4, hn, hm⟩ := hc.ex
  have hg0 := heap_alloc_new w (.cells #[.slice A n c, .slice B m d, .string mk] 26)
  have hb0 : Below w.heap.size w (w.alloc (.cells #[.slice A n c, .slice B m d, .string mk] 26)) := (Below.refl _ _).alloc (Nat.le_refl _) _
  have hcl2 := hcl.keep hb0
  have HZ := Lib.hid h4
  obtain ⟨hok, hmz, _, hwb⟩ := check_ok hz
  clear h4 hc
  rw [hz] at HC
  have hn12 : n ≤ 12 := by
    unfold wordsBad at hwb
    simp only [Bool.or_eq_false_iff, decide_eq_false_iff_not] at hwb
    omega
  clear hz hwb
  go_enter Tryz.func22, Tryz.ntmps22
  go_wp2_with (first
    | (refine wpList_load_row rfl 26 _ rfl w.heap.size rfl 26 _ (0, 0) _ hg0 Tryz.underlying26 rfl rfl ?_)
    | (go_at_call 45; refine (HC.out _ hcl2).mono ?_; rintro e w2 ⟨rfl, hb2⟩))
  have hg2 := (hb2.block _ (heap_lt hg0)).trans hg0
  have c02 := cell_of_row w2 _ 0 _ _ _ hg2
  have c12 := cell_of_row w2 _ 1 _ _ _ hg2
  have c22 := cell_of_row w2 _ 2 _ _ _ hg2
  have hbw := below_then hb0 hb0.size hb2
  have ha2 := (ha.keep hb0).keep hb2
  have hb2r := (hb.keep hb0).keep hb2
  obtain ⟨W1, hW1⟩ : ∃ W1, wordsT ws = W1 := ⟨_, rfl⟩
  have HW1 := Lib.hid hW1
  clear hW1
  go_loopw [5, 6] (fun s i wr => ∃ (k : Nat) (out : ByteArray), i = .int .i64 k ∧ s = .string out ∧ k ≤ n ∧ out ++ wordsT (ws.drop k) = W1 ∧ out.size ≤ 4294967297 * k ∧ wr = w2) (fun _ i _ => n - (intOf i).toNat)
  case atStart => exact ⟨0, ByteArray.empty, rfl, rfl, Nat.zero_le _, by simp [HW1.out], by simp, rfl⟩
  case round =>
    obtain ⟨k, out, rfl, rfl, hk, hacc, hos, rfl⟩ := hrel
    by_cases hlt : k < n
    · obtain ⟨b, o, x, rfl, hx, hcx⟩ := ha2.at1 hlt
      have hxz := HZ.out x (List.mem_of_getElem? hx)
      rw [drop_cons hx] at hacc
      simp only [wordsT] at hacc
      rw [← ByteArray.append_assoc, ← ByteArray.append_assoc] at hacc
      unfold eS at hcx
      have Hacc := Lib.hid hacc
      have hs32 : (⟨#[32]⟩ : ByteArray).size = 1 := rfl
      clear hacc hx
      go_wp2
      go_roundw
      case rel => exact ⟨k + 1, _, by go_num, rfl, by omega, Hacc.out, by simp only [ByteArray.size_append, hs32]; omega, trivial⟩
      case measure => simp [intOf] <;> omega
    · rw [List.drop_of_length_le (by omega)] at hacc
      simp only [wordsT, ByteArray.append_empty] at hacc
      have hos2 : out.size ≤ 51539607564 := by have : 4294967297 * k ≤ 4294967297 * 12 := Nat.mul_le_mul_left _ (by omega); omega
      clear hos
      obtain ⟨S2, hS2⟩ : ∃ S2, out ++ ⟨#[40]⟩ ++ sizesT mk 0 zs = S2 := ⟨_, rfl⟩
      have hfin : S2 ++ ⟨#[41]⟩ = printF ws zs mk := by
        unfold printF
        rw [HW1.out, ← hacc, ← hS2]
        simp only [ByteArray.append_assoc]
      have HS2 := Lib.hid hS2
      have HF := Lib.hid hfin
      have hs40 : (⟨#[40]⟩ : ByteArray).size = 1 := rfl
      clear hacc hS2 hfin
      have HK := Lib.hid hok
      clear hok
      go_wp2
      go_loopw [5, 7] (fun s i wr2 => ∃ (k : Nat) (out : ByteArray) (a : Int), i = .int .i64 k ∧ s = .string out ∧ k ≤ m ∧ 0 ≤ a ∧ a ≤ 24 ∧ okFrom (zs.drop k) a = true ∧ out ++ sizesT mk k (zs.drop k) = S2 ∧ out.size ≤ 51539607565 + 30 * k ∧ wr2.heap[w.heap.size]? = some (.cells #[.slice A n c, .slice B m d, .string mk] 26 (0, 0)) ∧ Rd wr2 1 B m (zs.map eZ) ∧ Below w.heap.size w wr2) (fun _ i _ => m - (intOf i).toNat)
      case atStart => exact ⟨0, _, 0, rfl, rfl, Nat.zero_le _, by omega, by omega, HK.out, HS2.out, by rw [ByteArray.size_append, hs40]; omega, hg2, hb2r, hbw⟩
      case round =>
        obtain ⟨k2, out2, a, rfl, rfl, hk2, ha0, ha1, hok, hacc, hos, hg3, hb3, hbw3⟩ := hrel
        have d1 := cell_of_row wr _ 1 _ _ _ hg3
        have d2 := cell_of_row wr _ 2 _ _ _ hg3
        by_cases hlt2 : k2 < m
        · obtain ⟨b, o, z, rfl, hx, hcx⟩ := hb3.at1 hlt2
          rw [drop_cons hx] at hok hacc
          simp only [okFrom, sizesT] at hok hacc
          unfold eZ at hcx
          by_cases q1 : z < 1 ∨ 24 < z
          · rw [if_pos q1] at hok; cases hok
          rw [if_neg q1] at hok
          by_cases q2 : 24 < a + z
          · rw [if_pos q2] at hok; cases hok
          rw [if_neg q2] at hok
          obtain ⟨zn, rfl⟩ : ∃ zn : Nat, z = (zn : Int) := ⟨z.toNat, by omega⟩
          rw [Int.toNat_natCast] at hacc
          have hdz : (decS zn).size ≤ 25 := by have := decS_size zn; have := nDigits_le zn; omega
          have q3 : a + (zn : Int) ≤ 24 := by omega
          have q4 : 0 ≤ a + (zn : Int) := by omega
          have Hok := Lib.hid hok
          have HD := Lib.hid (fun W => RefDecimal_any zn W (by omega))
          generalize decS zn = D at hacc hdz HD
          rcases Nat.eq_zero_or_pos k2 with h0 | h0
          · subst h0
            rw [if_neg (by omega), ByteArray.empty_append, ← ByteArray.append_assoc] at hacc
            have Hacc := Lib.hid hacc
            simp only [Nat.add_zero] at hcx
            clear hacc hok hx q1 q2
            go_wp2_with (go_at_call 59; refine (HD.out _).mono ?_; rintro e w4 ⟨rfl, hb4⟩)
            go_roundw
            case rel => exact ⟨1, _, a + zn, by go_num, rfl, by omega, by omega, by omega, Hok.out, Hacc.out, by rw [ByteArray.size_append]; omega, (hb4.block _ (heap_lt hg3)).trans hg3, hb3.keep hb4, below_then hbw3 hbw3.size hb4⟩
            case measure => simp [intOf] <;> omega
          · obtain ⟨k3, rfl⟩ : ∃ k3, k2 = k3 + 1 := ⟨k2 - 1, by omega⟩
            rw [if_pos (by omega), ← ByteArray.append_assoc, ← ByteArray.append_assoc] at hacc
            simp only [Nat.add_sub_cancel] at hacc
            have Hacc := Lib.hid hacc
            have hx1 : (mk.extract k3 (k3 + 1)).size = 1 := by rw [ByteArray.size_extract]; omega
            clear hacc hok hx q1 q2
            go_wp2_with (go_at_call 59; refine (HD.out _).mono ?_; rintro e w4 ⟨rfl, hb4⟩)
            go_roundw
            case rel => exact ⟨k3 + 2, _, a + zn, by go_num, rfl, by omega, by omega, by omega, Hok.out, Hacc.out, by simp only [ByteArray.size_append, hx1]; omega, (hb4.block _ (heap_lt hg3)).trans hg3, hb3.keep hb4, below_then hbw3 hbw3.size hb4⟩
            case measure => simp [intOf] <;> omega
        · rw [List.drop_of_length_le (by omega)] at hacc
          simp only [sizesT, ByteArray.append_empty] at hacc
          subst hacc
          clear hok
          have hs41 : (⟨#[41]⟩ : ByteArray).size = 1 := rfl
          go_wp2
          go_ret2
          exact ⟨by rw [← HF.out]; rfl, hbw3⟩
end Go.Proofs.YtbjgfjmknnbahaaGreatDoor

/- Contract: rebuslaw16.lent: a clue of one's own. -/
set_option linter.unusedVariables false
set_option linter.unusedSimpArgs false
namespace Go.Proofs.YtbjgfjmknnbahaaGreatDoor
open Go.RowKit

/-- 'append([]T{}, xs...)': a row of one's own. -/
theorem step_copy {P : Program} {ops : Array Oper} {o : Oper} {a : Act} {w : World} {K : Act → World → Prop} {Q : Exit → Act → World → Prop} {E : Prop}
    (hg : o.guard = none) (s x : Operand) (t : TypeId) (hop : o.op = Op.call { callee := Callee.builtin Builtin.append, args := #[s, x], argTypes := #[t, t] })
    (e : TypeId) (i : TypeInfo) (z : Value) (bytes : Nat) (h1 : P.underlying t = some (.slice e)) (h2 : P.info? e = some i) (h3 : i.zero = some z) (h4 : i.size = 1) (h5 : i.bytes = bytes) (h6 : z.cells.size = 1)
    (g : Addr) (hs : a.eval s = .slice (some g) 0 0) (A : Option Addr) (n c : Nat) (hx : a.eval x = .slice A n c) (hA : A = none → c = 0) (hnc : n ≤ c) (cs : List Value) (hrd : Rd w 1 A n cs) (hone : ∀ u ∈ cs, u.oneCell' = true)
    (b1 : n ≤ maxLen) (b2 : n * bytes ≤ 140737488355328) (N : Nat) (hN : N ≤ w.heap.size)
    (hK : ∀ v' w', (∃ A' c', v' = .slice A' n c' ∧ n ≤ c' ∧ c' ≤ maxLen ∧ Rd w' 1 A' n cs ∧ (0 < n → ∀ b o, A' = some ⟨b, o, none⟩ → N ≤ b)) → Below w.heap.size w w' → K (a.put o.dst v') w') :
    if Region.wanted o (yielded ops a.tmps) = true then Oper.wp P o a w K Q else E := by
  have hl : cs.length = n := by have := hrd.1; simpa using this
  rcases Nat.eq_zero_or_pos n with h0 | h0
  · subst h0
    have hcs : cs = [] := List.eq_nil_of_length_eq_zero hl
    subst hcs
    have hw : Region.wanted o (yielded ops a.tmps) = true := by simp [Region.wanted, hg]
    rw [if_pos hw]
    have hk := hK (.slice (some g) 0 0) w ⟨some g, 0, rfl, Nat.le_refl _, Nat.zero_le _, Rd.nil, fun h => absurd h (Nat.lt_irrefl _)⟩ (Below.refl _ _)
    have hr : (Builtin.append_ #[t, t] o.type #[.slice (some g) 0 0, .slice A 0 c]).run P w = .ok (.slice (some g) 0 0) w := by
      cases A with
      | none =>
        obtain rfl : c = 0 := hA rfl
        simp [Builtin.append_, run_underlying h1, sizeOf, typeInfo, h2, Builtin.lenOf, Builtin.firstCells, storeCells]
      | some ad => simp [Builtin.append_, run_underlying h1, sizeOf, typeInfo, h2, Builtin.lenOf, Builtin.firstCells, storeCells, loadCells, loadCellsFrom]
    unfold Oper.wp execOp
    simp only [hop, resolve, invoke, builtin, Sem.run_bind, Sem.run_pure, Result.andThen_ok, List.map_toArray, List.map_cons, List.map_nil, hs, hx, hr]
    exact hk
  · obtain ⟨b, o2, rfl, hc⟩ := hrd.2 h0
    have hp : ∀ j, (⟨b, o2, none⟩ : Addr).add j = ⟨b, o2 + j, none⟩ := fun j => by unfold Addr.add; split <;> simp_all
    refine step_append_grows hg s x t hop e i z 1 bytes h1 h2 h3 h4 h5 h6 (by decide) (some g) 0 0 [] hs (fun h => by cases h) rfl (fun b h j u hu => by simp at hu) ⟨b, o2, none⟩ n c cs hx (by omega) (fun j u hu => by rw [hp]; exact hc j u hu) hone (by omega) (by omega) (by rw [Nat.zero_add]; exact b2) ?_
    intro v' w' hown hgr
    rw [Nat.zero_add, List.nil_append] at hown
    obtain ⟨A', c', rfl, q1, q2, q3⟩ := own_rd hown
    exact hK _ w' ⟨A', c', rfl, q1, q2, q3, fun _ b o e => by subst e; exact Nat.le_trans hN (own_block hown)⟩ ((Below.refl _ _).grown hgr (Nat.le_refl _) (by simp))
theorem one_eZ (zs : List Int) : ∀ u ∈ zs.map eZ, u.oneCell' = true := by
  intro u hu
  obtain ⟨x, _, rfl⟩ := List.mem_map.1 hu
  rfl
theorem one_eS' (ws : List ByteArray) : ∀ u ∈ ws.map eS, u.oneCell' = true := by
  intro u hu
  obtain ⟨x, _, rfl⟩ := List.mem_map.1 hu
  rfl
theorem below_drew1 {w : World} : Below w.heap.size w w.drew := ⟨rfl, rfl, rfl, Nat.le_refl _, fun _ _ => rfl⟩

theorem lent_of {A B : Option Addr} {n c m d N : Nat} {mk : ByteArray} {w W : World} (h0 : W.heap[N]? = some (.cells #[.slice A n c, .slice B m d, .string mk] 26 (0, 0))) (h1 : ∃ x y z : Value, W.heap[N + 1]? = some (.cells #[x, y, z] 26 (0, 0))) (hb : Below N w W) :
    W.cell? ⟨N, 0, none⟩ = some (.slice A n c) ∧ W.cell? ⟨N, 1, none⟩ = some (.slice B m d) ∧ W.cell? ⟨N, 2, none⟩ = some (.string mk) ∧ W.heap[N]? = some (.cells #[.slice A n c, .slice B m d, .string mk] 26 (0, 0)) ∧ (∃ x y z : Value, W.heap[N + 1]? = some (.cells #[x, y, z] 26 (0, 0))) ∧ Below N w W :=
  ⟨cell_of_row W _ 0 _ _ _ h0, cell_of_row W _ 1 _ _ _ h0, cell_of_row W _ 2 _ _ _ h0, h0, h1, hb⟩
theorem lent_step {A B : Option Addr} {n c m d N : Nat} {mk : ByteArray} {w W : World} {W' : World} (h : W.cell? ⟨N, 0, none⟩ = some (.slice A n c) ∧ W.cell? ⟨N, 1, none⟩ = some (.slice B m d) ∧ W.cell? ⟨N, 2, none⟩ = some (.string mk) ∧ W.heap[N]? = some (.cells #[.slice A n c, .slice B m d, .string mk] 26 (0, 0)) ∧ (∃ x y z : Value, W.heap[N + 1]? = some (.cells #[x, y, z] 26 (0, 0))) ∧ Below N w W) (hN : N ≤ W.heap.size) (hb : Below W.heap.size W W') :
    W'.cell? ⟨N, 0, none⟩ = some (.slice A n c) ∧ W'.cell? ⟨N, 1, none⟩ = some (.slice B m d) ∧ W'.cell? ⟨N, 2, none⟩ = some (.string mk) ∧ W'.heap[N]? = some (.cells #[.slice A n c, .slice B m d, .string mk] 26 (0, 0)) ∧ (∃ x y z : Value, W'.heap[N + 1]? = some (.cells #[x, y, z] 26 (0, 0))) ∧ Below N w W' := by
  obtain ⟨_, _, _, h0, ⟨x, y, z, h1⟩, h2⟩ := h
  exact lent_of ((hb.block _ (heap_lt h0)).trans h0) ⟨x, y, z, (hb.block _ (heap_lt h1)).trans h1⟩ (below_then h2 hN hb)
theorem lent_size {A B : Option Addr} {n c m d N : Nat} {mk : ByteArray} {w W : World} (h : W.cell? ⟨N, 0, none⟩ = some (.slice A n c) ∧ W.cell? ⟨N, 1, none⟩ = some (.slice B m d) ∧ W.cell? ⟨N, 2, none⟩ = some (.string mk) ∧ W.heap[N]? = some (.cells #[.slice A n c, .slice B m d, .string mk] 26 (0, 0)) ∧ (∃ x y z : Value, W.heap[N + 1]? = some (.cells #[x, y, z] 26 (0, 0))) ∧ Below N w W) : N ≤ W.heap.size := Nat.le_of_lt (heap_lt h.2.2.2.1)
theorem lent_size2 {A B : Option Addr} {n c m d N : Nat} {mk : ByteArray} {w W : World} (h : W.cell? ⟨N, 0, none⟩ = some (.slice A n c) ∧ W.cell? ⟨N, 1, none⟩ = some (.slice B m d) ∧ W.cell? ⟨N, 2, none⟩ = some (.string mk) ∧ W.heap[N]? = some (.cells #[.slice A n c, .slice B m d, .string mk] 26 (0, 0)) ∧ (∃ x y z : Value, W.heap[N + 1]? = some (.cells #[x, y, z] 26 (0, 0))) ∧ Below N w W) : N + 2 ≤ W.heap.size := by
  obtain ⟨_, _, _, h0, ⟨x, y, z, h1⟩, h2⟩ := h
  exact heap_lt h1
theorem lent_below {A B : Option Addr} {n c m d N : Nat} {mk : ByteArray} {w W : World} (h : W.cell? ⟨N, 0, none⟩ = some (.slice A n c) ∧ W.cell? ⟨N, 1, none⟩ = some (.slice B m d) ∧ W.cell? ⟨N, 2, none⟩ = some (.string mk) ∧ W.heap[N]? = some (.cells #[.slice A n c, .slice B m d, .string mk] 26 (0, 0)) ∧ (∃ x y z : Value, W.heap[N + 1]? = some (.cells #[x, y, z] 26 (0, 0))) ∧ Below N w W) : Below N w W := h.2.2.2.2.2
theorem lent_store {A B : Option Addr} {n c m d N : Nat} {mk : ByteArray} {w W : World} {a1 a2 a3 : Value} (h : W.cell? ⟨N, 0, none⟩ = some (.slice A n c) ∧ W.cell? ⟨N, 1, none⟩ = some (.slice B m d) ∧ W.cell? ⟨N, 2, none⟩ = some (.string mk) ∧ W.heap[N]? = some (.cells #[.slice A n c, .slice B m d, .string mk] 26 (0, 0)) ∧ (∃ x y z : Value, W.heap[N + 1]? = some (.cells #[x, y, z] 26 (0, 0))) ∧ Below N w W) :
    (((W.setCell ⟨N + 1, 0, none⟩ a1).setCell ⟨N + 1, 1, none⟩ a2).setCell ⟨N + 1, 2, none⟩ a3).cell? ⟨N, 0, none⟩ = some (.slice A n c) ∧ (((W.setCell ⟨N + 1, 0, none⟩ a1).setCell ⟨N + 1, 1, none⟩ a2).setCell ⟨N + 1, 2, none⟩ a3).cell? ⟨N, 1, none⟩ = some (.slice B m d) ∧ (((W.setCell ⟨N + 1, 0, none⟩ a1).setCell ⟨N + 1, 1, none⟩ a2).setCell ⟨N + 1, 2, none⟩ a3).cell? ⟨N, 2, none⟩ = some (.string mk) ∧ (((W.setCell ⟨N + 1, 0, none⟩ a1).setCell ⟨N + 1, 1, none⟩ a2).setCell ⟨N + 1, 2, none⟩ a3).heap[N]? = some (.cells #[.slice A n c, .slice B m d, .string mk] 26 (0, 0)) ∧ (∃ x y z : Value, (((W.setCell ⟨N + 1, 0, none⟩ a1).setCell ⟨N + 1, 1, none⟩ a2).setCell ⟨N + 1, 2, none⟩ a3).heap[N + 1]? = some (.cells #[x, y, z] 26 (0, 0))) ∧ Below N w (((W.setCell ⟨N + 1, 0, none⟩ a1).setCell ⟨N + 1, 1, none⟩ a2).setCell ⟨N + 1, 2, none⟩ a3) := by
  obtain ⟨_, _, _, h0, ⟨x, y, z, h1⟩, h2⟩ := h
  have hs : Below (N + 1) W (((W.setCell ⟨N + 1, 0, none⟩ a1).setCell ⟨N + 1, 1, none⟩ a2).setCell ⟨N + 1, 2, none⟩ a3) := by
    have h3 := set3_below (a := a1) (b := a2) (c := a3) (Below.refl (N + 1) W)
    exact ⟨h3.os, h3.tape, h3.output, h3.size, h3.block⟩
  exact lent_of ((hs.block N (Nat.lt_succ_self N)).trans h0) ⟨a1, a2, a3, set3_heap h1⟩ (h2.trans (hs.mono (Nat.le_succ N)))
theorem Rd.set3 {W : World} {A : Option Addr} {n N : Nat} {cs : List Value} {a1 a2 a3 : Value} (h : Rd W 1 A n cs) (hN : 0 < n → ∀ b o, A = some ⟨b, o, none⟩ → N + 2 ≤ b) : Rd (((W.setCell ⟨N + 1, 0, none⟩ a1).setCell ⟨N + 1, 1, none⟩ a2).setCell ⟨N + 1, 2, none⟩ a3) 1 A n cs := by
  rcases Nat.eq_zero_or_pos n with h0 | h0
  · subst h0
    have : cs = [] := List.eq_nil_of_length_eq_zero (by simpa using h.1)
    subst this
    exact Rd.nil
  · exact h.apart (fun b o e => by have := hN h0 b o e; omega) ((((Apart.refl _ _).setCell _).setCell _).setCell _)
set_option maxHeartbeats 4000000 in
set_option maxRecDepth 100000 in
theorem Lent_any (A : Option Addr) (n c : Nat) (B : Option Addr) (m d : Nat) (ws : List ByteArray) (zs : List Int) (mk : ByteArray) (w : World) (ha : Rd w 1 A n (ws.map eS)) (hb : Rd w 1 B m (zs.map eZ)) (hA : A = none → c = 0) (hB : B = none → d = 0) (hnc : n ≤ c) (hmd : m ≤ d) (hn : n ≤ 4294967296) (hm : m ≤ 4294967296) :
    Calls Tryz.prog 13 #[.agg #[.slice A n c, .slice B m d, .string mk]] w fun e w' => (∃ A' c' B' d', e = .returned (.agg #[.slice A' n c', .slice B' m d', .string mk]) ∧ IsClue w' (.agg #[.slice A' n c', .slice B' m d', .string mk]) ws zs mk) ∧ Below w.heap.size w w' := by
  obtain ⟨i0, hi, hz0, hz1, hz2⟩ := info_parts info_str
  obtain ⟨j0, hj, hy0, hy1, hy2⟩ := info_parts info_i64
  have hg0 := heap_alloc_new w (.cells #[.slice A n c, .slice B m d, .string mk] 26)
  have hg1 := heap_alloc_keep hg0 (.cells #[.slice none 0 0, .slice none 0 0, .string ⟨#[]⟩] 26)
  have hg2 := heap_alloc_new (w.alloc (.cells #[.slice A n c, .slice B m d, .string mk] 26)) (.cells #[.slice none 0 0, .slice none 0 0, .string ⟨#[]⟩] 26)
  have hsz1 : (w.alloc (.cells #[.slice A n c, .slice B m d, .string mk] 26)).heap.size = w.heap.size + 1 := by simp
  rw [hsz1] at hg2
  have hb2 : Below w.heap.size w ((w.alloc (.cells #[.slice A n c, .slice B m d, .string mk] 26)).alloc (.cells #[.slice none 0 0, .slice none 0 0, .string ⟨#[]⟩] 26)) := ((Below.refl _ _).alloc (Nat.le_refl _) _).alloc (by simp) _
  have HS0 := lent_of (W := ((w.alloc (.cells #[.slice A n c, .slice B m d, .string mk] 26)).alloc (.cells #[.slice none 0 0, .slice none 0 0, .string ⟨#[]⟩] 26)).drew) hg1 ⟨_, _, _, hg2⟩ ⟨hb2.os, hb2.tape, hb2.output, hb2.size, hb2.block⟩
  clear hsz1 hb2 hg0
  go_enter Tryz.func13, Tryz.ntmps13
  go_wp2_with fail
  go_region_held_law (fun w' => w'.cell? ⟨w.heap.size, 0, none⟩ = some (.slice A n c) ∧ w'.cell? ⟨w.heap.size, 1, none⟩ = some (.slice B m d) ∧ w'.cell? ⟨w.heap.size, 2, none⟩ = some (.string mk) ∧ w'.heap[w.heap.size]? = some (.cells #[.slice A n c, .slice B m d, .string mk] 26 (0, 0)) ∧ (∃ x y z : Value, w'.heap[w.heap.size + 1]? = some (.cells #[x, y, z] 26 (0, 0))) ∧ Below w.heap.size w w')
    (first | exact HS0 | exact hS5 | exact hS6 | exact lent_step (by assumption) (lent_size (by assumption)) ((Below.refl _ _).alloc (Nat.le_refl _) _) | exact lent_store hS5 | exact lent_store hS6)
    (first
      | (refine step_copy rfl _ _ 23 rfl 9 i0 (.string ⟨#[]⟩) 16 Tryz.underlying23 hi hz0 hz1 hz2 rfl _ rfl A n c rfl hA hnc (ws.map eS) (ha.keep (lent_below (by assumption))) (one_eS' ws) (by simp only [maxLen]; omega) (by omega) (w.heap.size + 2) (lent_size2 (by assumption)) ?_; intro v' w5 h5 hb5; obtain ⟨A5, c5, rfl, q1, q2, hrd5, hn5⟩ := h5; have hS5 := lent_step (W' := w5) (by assumption) (lent_size (by assumption)) hb5; obtain ⟨x5, y5, z5, hr5⟩ := hS5.2.2.2.2.1; have k0 := cell_of_row w5 _ 0 _ _ _ hr5; have k1 := cell_of_row w5 _ 1 _ _ _ hr5; have k2 := cell_of_row w5 _ 2 _ _ _ hr5; have f0 := frozen_row hr5 0; have f1 := frozen_row hr5 1; have f2 := frozen_row hr5 2)
      | (refine step_copy rfl _ _ 24 rfl 3 j0 (.int .i64 0) 8 Tryz.underlying24 hj hy0 hy1 hy2 rfl _ rfl B m d rfl hB hmd (zs.map eZ) (hb.keep (lent_below (by assumption))) (one_eZ zs) (by simp only [maxLen]; omega) (by omega) (w.heap.size + 2) (lent_size2 (by assumption)) ?_; intro v' w6 h6 hb6; obtain ⟨B6, d6, rfl, r1, r2, hrd6, hn6⟩ := h6; have hS6 := lent_step (W' := w6) (by assumption) (lent_size (by assumption)) hb6; obtain ⟨x6, y6, z6, hr6⟩ := hS6.2.2.2.2.1; have k0 := cell_of_row w6 _ 0 _ _ _ hr6; have k1 := cell_of_row w6 _ 1 _ _ _ hr6; have k2 := cell_of_row w6 _ 2 _ _ _ hr6; have f0 := frozen_row hr6 0; have f1 := frozen_row hr6 1; have f2 := frozen_row hr6 2))
  all_goals (
    go_wp2
    refine bodyPost_ret (results_cell_row rfl _ _ (w.heap.size + 1) 26 _ (0, 0) _ rfl (by first | exact set3_heap hr6 | exact set3_heap hr5) Tryz.underlying26 rfl rfl) rfl ?_
    have hrd5' := hrd5
    have hrd6' := hrd6
    refine ⟨⟨A5, c5, B6, d6, rfl, A5, n, c5, B6, m, d6, rfl, Rd.set3 (by first | exact hrd5 | exact hrd5.keep hb6 | exact (hrd5.keep ((Below.refl _ _).alloc (Nat.le_refl _) _)).keep hb6) hn5, Rd.set3 (by first | exact hrd6 | exact hrd6.keep hb5 | exact (hrd6.keep ((Below.refl _ _).alloc (Nat.le_refl _) _)).keep hb5) hn6, q1, r1, q2, r2, ?_, ?_⟩, ?_⟩
    · have := ha.1; simpa using this
    · have := hb.1; simpa using this
    · first | exact lent_below (lent_store hS6) | exact lent_below (lent_store hS5))
end Go.Proofs.YtbjgfjmknnbahaaGreatDoor

/- Contract: rebuslaw16.ClueWrites: true for every clue. -/
set_option linter.unusedVariables false
set_option linter.unusedSimpArgs false
namespace Go.Proofs.YtbjgfjmknnbahaaGreatDoor
open Go.RowKit

theorem writes_of {A B A2 B2 : Option Addr} {n c m d c2 d2 : Nat} {mk : ByteArray} {w w2 w4 W : World} (h0 : W.heap[w.heap.size]? = some (.cells #[.slice A n c, .slice B m d, .string mk] 26 (0, 0))) (h1 : W.heap[w2.heap.size]? = some (.cells #[.slice A2 n c2, .slice B2 m d2, .string mk] 26 (0, 0))) (hb : Below w4.heap.size w4 W) :
    W.cell? ⟨w.heap.size, 0, none⟩ = some (.slice A n c) ∧ W.cell? ⟨w.heap.size, 1, none⟩ = some (.slice B m d) ∧ W.cell? ⟨w.heap.size, 2, none⟩ = some (.string mk) ∧ W.cell? ⟨w2.heap.size, 0, none⟩ = some (.slice A2 n c2) ∧ W.cell? ⟨w2.heap.size, 1, none⟩ = some (.slice B2 m d2) ∧ W.cell? ⟨w2.heap.size, 2, none⟩ = some (.string mk) ∧ Below w4.heap.size w4 W :=
  ⟨cell_of_row W _ 0 _ _ _ h0, cell_of_row W _ 1 _ _ _ h0, cell_of_row W _ 2 _ _ _ h0, cell_of_row W _ 0 _ _ _ h1, cell_of_row W _ 1 _ _ _ h1, cell_of_row W _ 2 _ _ _ h1, hb⟩
theorem writes_step {A B A2 B2 : Option Addr} {n c m d c2 d2 : Nat} {mk : ByteArray} {w w2 w4 W W' : World} (h : W.cell? ⟨w.heap.size, 0, none⟩ = some (.slice A n c) ∧ W.cell? ⟨w.heap.size, 1, none⟩ = some (.slice B m d) ∧ W.cell? ⟨w.heap.size, 2, none⟩ = some (.string mk) ∧ W.cell? ⟨w2.heap.size, 0, none⟩ = some (.slice A2 n c2) ∧ W.cell? ⟨w2.heap.size, 1, none⟩ = some (.slice B2 m d2) ∧ W.cell? ⟨w2.heap.size, 2, none⟩ = some (.string mk) ∧ Below w4.heap.size w4 W) (hb : Below W.heap.size W W') :
    W'.cell? ⟨w.heap.size, 0, none⟩ = some (.slice A n c) ∧ W'.cell? ⟨w.heap.size, 1, none⟩ = some (.slice B m d) ∧ W'.cell? ⟨w.heap.size, 2, none⟩ = some (.string mk) ∧ W'.cell? ⟨w2.heap.size, 0, none⟩ = some (.slice A2 n c2) ∧ W'.cell? ⟨w2.heap.size, 1, none⟩ = some (.slice B2 m d2) ∧ W'.cell? ⟨w2.heap.size, 2, none⟩ = some (.string mk) ∧ Below w4.heap.size w4 W' := by
  obtain ⟨h1, h2, h3, h4, h5, h6, h7⟩ := h
  exact ⟨cell_keep hb h1, cell_keep hb h2, cell_keep hb h3, cell_keep hb h4, cell_keep hb h5, cell_keep hb h6, below_then h7 h7.size hb⟩
theorem writes_below {A B A2 B2 : Option Addr} {n c m d c2 d2 : Nat} {mk : ByteArray} {w w2 w4 W : World} (h : W.cell? ⟨w.heap.size, 0, none⟩ = some (.slice A n c) ∧ W.cell? ⟨w.heap.size, 1, none⟩ = some (.slice B m d) ∧ W.cell? ⟨w.heap.size, 2, none⟩ = some (.string mk) ∧ W.cell? ⟨w2.heap.size, 0, none⟩ = some (.slice A2 n c2) ∧ W.cell? ⟨w2.heap.size, 1, none⟩ = some (.slice B2 m d2) ∧ W.cell? ⟨w2.heap.size, 2, none⟩ = some (.string mk) ∧ Below w4.heap.size w4 W) : Below w4.heap.size w4 W := h.2.2.2.2.2.2
theorem toNat_back (zs : List Int) (h : ∀ z ∈ zs, 1 ≤ z) : (zs.map Int.toNat).map Int.ofNat = zs := by
  rw [List.map_map]
  conv => rhs; rw [← List.map_id zs]
  apply List.map_congr_left
  intro z hz
  have := h z hz
  show ((z.toNat : Nat) : Int) = z
  omega
set_option maxHeartbeats 8000000 in
set_option maxRecDepth 100000 in
theorem ClueWrites_any (A : Option Addr) (n c : Nat) (B : Option Addr) (m d : Nat) (ws : List ByteArray) (zs : List Int) (mk : ByteArray) (w : World) (hc : IsClue w (.agg #[.slice A n c, .slice B m d, .string mk]) ws zs mk) (hA : A = none → c = 0) (hB : B = none → d = 0) (h1 : ws.length ≤ 1048576) (h2 : zs.length ≤ 1048576) (h3 : mk.size ≤ 1048576) (h4 : ∀ x ∈ ws, x.size ≤ 1048576) (hv : Vars w) :
    Calls Tryz.prog 6 #[.agg #[.slice A n c, .slice B m d, .string mk]] w fun e w' => e = .returned (.bool true) ∧ Below w.heap.size w w' := by
  obtain ⟨A', n', c', B', m', d', he, ha, hb, k1, k2, k3, k4, hn, hm⟩ := hc.ex
  simp only [Value.agg.injEq, Array.mk.injEq, List.cons.injEq, Value.slice.injEq, and_true] at he
  obtain ⟨⟨rfl, rfl, rfl⟩, rfl, rfl, rfl⟩ := he
  have h4' : ∀ x ∈ ws, x.size ≤ 4294967296 := fun x hx => Nat.le_trans (h4 x hx) (by omega)
  have HA := Lib.hid (fun W (h : Vars W) => Awake_any W h)
  have HLe := Lib.hid (fun W (ha : Rd W 1 A n (ws.map eS)) (hb : Rd W 1 B m (zs.map eZ)) => Lent_any A n c B m d ws zs mk W ha hb hA hB k1 k2 (by omega) (by omega))
  have HC := Lib.hid (fun v W h => Check_any v ws zs mk W h (by omega) (by omega) (by omega) h4')
  have HL1 := Lib.hid (fun v W h => Letters_any v ws zs mk W h (by omega) (by omega) (by omega) h4')
  have HL2 := Lib.hid (fun v W h => RefLetters_any v ws zs mk W h (by omega) (by omega) (by omega) h4')
  have HSa := Lib.hid (fun v u W (ha : IsClue W v ws zs mk) (hb : IsClue W u ws zs mk) => (sameC_refl ws zs mk ▸ RefSame_any v u ws ws zs zs mk mk W ha hb (by omega) (by omega) (by omega) (by omega) : Calls Tryz.prog 10 #[v, u] W fun e w' => e = .returned (.bool true) ∧ Below W.heap.size W w'))
  generalize lettersF ws zs mk = lf at HL1 HL2
  have hg0 := heap_alloc_new w (.cells #[.slice A n c, .slice B m d, .string mk] 26)
  have hb0 : Below w.heap.size w (w.alloc (.cells #[.slice A n c, .slice B m d, .string mk] 26)) := (Below.refl _ _).alloc (Nat.le_refl _) _
  have hv0 := hv.keep hb0
  have ha0 := ha.keep hb0
  have hbz0 := hb.keep hb0
  have hcl0 := hc.keep hb0
  by_cases hz : checkF ws zs mk = 0
  · have HP1 := Lib.hid (fun v W h => CluePrint_good v ws zs mk W h (by omega) (by omega) (by omega) h4' hz)
    have HP2 := Lib.hid (fun v W h => RefPrint_good v ws zs mk W h (by omega) (by omega) (by omega) h4' hz)
    have hpp := fun h => parse_print hz h
    obtain ⟨o1, _⟩ := okZ_sum (check_ok hz).1
    have hback := toNat_back zs (fun z hz => (o1 z hz).1)
    rw [hz] at HC
    generalize printF ws zs mk = P at HP1 HP2 hpp
    by_cases hsz : P.size ≤ 65536
    · have hP := hpp hsz
      have HPa := Lib.hid (fun W (h : Vars W) => (Parse_any P W h).mono (fun e w' k => (PTold.open (hP ▸ k))))
      rw [hback] at HPa
      rw [List.length_map, hn, hm] at HPa
      have hsz2 : ¬ (65536 < P.size) := by omega
      clear hc h4 h4' hz hpp hP hback o1 hsz
      go_enter Tryz.func6, Tryz.ntmps6
      go_wp2_with (first
        | (go_at_call 7; refine (HA.out _ hv0).mono ?_; rintro e w1 ⟨rfl, hb1⟩; have g1 := (hb1.block _ (heap_lt hg0)).trans hg0; have hbw1 := below_then hb0 hb0.size hb1)
        | (refine wpList_load_row rfl 26 _ rfl w.heap.size rfl 26 _ (0, 0) _ g1 Tryz.underlying26 rfl rfl ?_)
        | (go_at_call 13; refine (HLe.out _ (ha0.keep hb1) (hbz0.keep hb1)).mono ?_; rintro e w2 ⟨⟨A2, c2, B2, d2, rfl, hcl2⟩, hb2⟩; have hba := (Below.refl w2.heap.size w2).alloc (Nat.le_refl _) (.cells #[.slice A2 n c2, .slice B2 m d2, .string mk] 26); have g2 := (hba.block _ (heap_lt ((hb2.block _ (heap_lt g1)).trans g1))).trans ((hb2.block _ (heap_lt g1)).trans g1); have gn2 := heap_alloc_new w2 (.cells #[.slice A2 n c2, .slice B2 m d2, .string mk] 26); have hbw2 := below_then (below_then hbw1 hbw1.size hb2) (by have := hbw1.size; have := hb2.size; omega) hba; have hcl3 := hcl2.keep hba; have hclo3 := ((hcl0.keep hb1).keep hb2).keep hba)
        | (refine wpList_load_row rfl 26 _ rfl w2.heap.size rfl 26 _ (0, 0) _ gn2 Tryz.underlying26 rfl rfl ?_)
        | (go_at_call 21; refine (HP1.out _ _ hcl3).mono ?_; rintro e w3 ⟨rfl, hb3⟩; have g3 := (hb3.block _ (heap_lt g2)).trans g2; have gn3 := (hb3.block _ (heap_lt gn2)).trans gn2; have hbw3 := below_then hbw2 hbw2.size hb3)
        | (refine wpList_load_row rfl 26 _ rfl w.heap.size rfl 26 _ (0, 0) _ g3 Tryz.underlying26 rfl rfl ?_)
        | (go_at_call 22; refine (HP2.out _ _ (hclo3.keep hb3)).mono ?_; rintro e w4 ⟨rfl, hb4⟩; have g4 := (hb4.block _ (heap_lt g3)).trans g3; have gn4 := (hb4.block _ (heap_lt gn3)).trans gn3; have hbw4 := below_then hbw3 hbw3.size hb4; have hcl4 := (hcl3.keep hb3).keep hb4; have hclo4 := (hclo3.keep hb3).keep hb4))
      have HS0 := writes_of (W := w4.drew) g4 gn4 (below_drw (Below.refl _ w4) 1)
      go_region_held3 (fun w' => w'.cell? ⟨w.heap.size, 0, none⟩ = some (.slice A n c) ∧ w'.cell? ⟨w.heap.size, 1, none⟩ = some (.slice B m d) ∧ w'.cell? ⟨w.heap.size, 2, none⟩ = some (.string mk) ∧ w'.cell? ⟨w2.heap.size, 0, none⟩ = some (.slice A2 n c2) ∧ w'.cell? ⟨w2.heap.size, 1, none⟩ = some (.slice B2 m d2) ∧ w'.cell? ⟨w2.heap.size, 2, none⟩ = some (.string mk) ∧ Below w4.heap.size w4 w') (first | exact HS0 | exact writes_step (by assumption) hb5 | exact writes_step (by assumption) hb6 | exact writes_step (by assumption) hb7 | exact writes_step (by assumption) hb8)
        (first
          | (go_at_call 11; refine (HC.out _ _ (hcl4.keep (writes_below (by assumption)))).mono ?_; rintro e w5 ⟨rfl, hb5⟩)
          | (go_at_call 23; refine (HL1.out _ _ (hcl4.keep (writes_below (by assumption)))).mono ?_; rintro e w6 ⟨rfl, hb6⟩)
          | (go_at_call 24; refine (HL2.out _ _ (hclo4.keep (writes_below (by assumption)))).mono ?_; rintro e w7 ⟨rfl, hb7⟩)
          | (go_at_call 10; refine (HSa.out _ _ _ (hcl4.keep (writes_below (by assumption))) (hclo4.keep (writes_below (by assumption)))).mono ?_; rintro e w8 ⟨rfl, hb8⟩))
      all_goals (
        have hS8 := writes_below (W := w8) (by assumption)
        have g8 := (hS8.block _ (heap_lt g4)).trans g4
        have hbw8 := below_then hbw4 hbw4.size hS8
        have hv8 := hv.keep hbw8
        have hclo8 := hclo4.keep hS8
        go_wp2_with (first
          | (go_at_call 8; refine (HPa.out _ hv8).mono ?_; rintro e w9 ⟨Ab, cb, Bb, db, rfl, hclb, hb9⟩; have hban := (Below.refl w9.heap.size w9).alloc (Nat.le_refl _) (.cells #[.slice Ab n cb, .slice Bb m db, .string mk] 26); have gn9 := heap_alloc_new w9 (.cells #[.slice Ab n cb, .slice Bb m db, .string mk] 26); have g9 := heap_alloc_keep ((hb9.block _ (heap_lt g8)).trans g8) (.cells #[.slice Ab n cb, .slice Bb m db, .string mk] 26); have hbw9 := below_then (below_then hbw8 hbw8.size hb9) (by have := hbw8.size; have := hb9.size; omega) hban; have hclb9 := hclb.keep hban; have hclo9 := (hclo8.keep hb9).keep hban)
          | (refine wpList_load_row_on rfl 26 _ rfl w9.heap.size rfl 26 _ (0, 0) _ gn9 Tryz.underlying26 rfl rfl ?_)
          | (refine wpList_load_row_on rfl 26 _ rfl w.heap.size rfl 26 _ (0, 0) _ g9 Tryz.underlying26 rfl rfl ?_)
          | (go_at_call 10; refine (HSa.out _ _ _ hclb9 hclo9).mono ?_; rintro e w10 ⟨rfl, hb10⟩))
        go_ret
        exact ⟨rfl, below_then hbw9 hbw9.size hb10⟩)
    · have hsz2 : 65536 < P.size := by omega
      clear hc h4 h4' hz hpp hback o1 hsz
      go_enter Tryz.func6, Tryz.ntmps6
      go_wp2_with (first
        | (go_at_call 7; refine (HA.out _ hv0).mono ?_; rintro e w1 ⟨rfl, hb1⟩; have g1 := (hb1.block _ (heap_lt hg0)).trans hg0; have hbw1 := below_then hb0 hb0.size hb1)
        | (refine wpList_load_row rfl 26 _ rfl w.heap.size rfl 26 _ (0, 0) _ g1 Tryz.underlying26 rfl rfl ?_)
        | (go_at_call 13; refine (HLe.out _ (ha0.keep hb1) (hbz0.keep hb1)).mono ?_; rintro e w2 ⟨⟨A2, c2, B2, d2, rfl, hcl2⟩, hb2⟩; have hba := (Below.refl w2.heap.size w2).alloc (Nat.le_refl _) (.cells #[.slice A2 n c2, .slice B2 m d2, .string mk] 26); have g2 := (hba.block _ (heap_lt ((hb2.block _ (heap_lt g1)).trans g1))).trans ((hb2.block _ (heap_lt g1)).trans g1); have gn2 := heap_alloc_new w2 (.cells #[.slice A2 n c2, .slice B2 m d2, .string mk] 26); have hbw2 := below_then (below_then hbw1 hbw1.size hb2) (by have := hbw1.size; have := hb2.size; omega) hba; have hcl3 := hcl2.keep hba; have hclo3 := ((hcl0.keep hb1).keep hb2).keep hba)
        | (refine wpList_load_row rfl 26 _ rfl w2.heap.size rfl 26 _ (0, 0) _ gn2 Tryz.underlying26 rfl rfl ?_)
        | (go_at_call 21; refine (HP1.out _ _ hcl3).mono ?_; rintro e w3 ⟨rfl, hb3⟩; have g3 := (hb3.block _ (heap_lt g2)).trans g2; have gn3 := (hb3.block _ (heap_lt gn2)).trans gn2; have hbw3 := below_then hbw2 hbw2.size hb3)
        | (refine wpList_load_row rfl 26 _ rfl w.heap.size rfl 26 _ (0, 0) _ g3 Tryz.underlying26 rfl rfl ?_)
        | (go_at_call 22; refine (HP2.out _ _ (hclo3.keep hb3)).mono ?_; rintro e w4 ⟨rfl, hb4⟩; have g4 := (hb4.block _ (heap_lt g3)).trans g3; have gn4 := (hb4.block _ (heap_lt gn3)).trans gn3; have hbw4 := below_then hbw3 hbw3.size hb4; have hcl4 := (hcl3.keep hb3).keep hb4; have hclo4 := (hclo3.keep hb3).keep hb4))
      have HS0 := writes_of (W := w4.drew) g4 gn4 (below_drw (Below.refl _ w4) 1)
      go_region_held3 (fun w' => w'.cell? ⟨w.heap.size, 0, none⟩ = some (.slice A n c) ∧ w'.cell? ⟨w.heap.size, 1, none⟩ = some (.slice B m d) ∧ w'.cell? ⟨w.heap.size, 2, none⟩ = some (.string mk) ∧ w'.cell? ⟨w2.heap.size, 0, none⟩ = some (.slice A2 n c2) ∧ w'.cell? ⟨w2.heap.size, 1, none⟩ = some (.slice B2 m d2) ∧ w'.cell? ⟨w2.heap.size, 2, none⟩ = some (.string mk) ∧ Below w4.heap.size w4 w') (first | exact HS0 | exact writes_step (by assumption) hb5 | exact writes_step (by assumption) hb6 | exact writes_step (by assumption) hb7 | exact writes_step (by assumption) hb8)
        (first
          | (go_at_call 11; refine (HC.out _ _ (hcl4.keep (writes_below (by assumption)))).mono ?_; rintro e w5 ⟨rfl, hb5⟩)
          | (go_at_call 23; refine (HL1.out _ _ (hcl4.keep (writes_below (by assumption)))).mono ?_; rintro e w6 ⟨rfl, hb6⟩)
          | (go_at_call 24; refine (HL2.out _ _ (hclo4.keep (writes_below (by assumption)))).mono ?_; rintro e w7 ⟨rfl, hb7⟩)
          | (go_at_call 10; refine (HSa.out _ _ _ (hcl4.keep (writes_below (by assumption))) (hclo4.keep (writes_below (by assumption)))).mono ?_; rintro e w8 ⟨rfl, hb8⟩))
      all_goals (
        go_wp2
        go_ret
        exact ⟨rfl, below_then hbw4 hbw4.size (writes_below (by assumption))⟩)
  · have HP1 := Lib.hid (fun v W h => CluePrint_bad v ws zs mk W h (by omega) (by omega) (by omega) h4' hz)
    have HP2 := Lib.hid (fun v W h => RefPrint_bad v ws zs mk W h (by omega) (by omega) (by omega) h4' hz)
    generalize checkF ws zs mk = q at hz HC HP1 HP2
    have hq : ((q : Int) != 0) = true := by simp; omega
    clear hc h4 h4' hz
    go_enter Tryz.func6, Tryz.ntmps6
    go_wp2_with (first
      | (go_at_call 7; refine (HA.out _ hv0).mono ?_; rintro e w1 ⟨rfl, hb1⟩; have g1 := (hb1.block _ (heap_lt hg0)).trans hg0; have hbw1 := below_then hb0 hb0.size hb1)
      | (refine wpList_load_row rfl 26 _ rfl w.heap.size rfl 26 _ (0, 0) _ g1 Tryz.underlying26 rfl rfl ?_)
      | (go_at_call 13; refine (HLe.out _ (ha0.keep hb1) (hbz0.keep hb1)).mono ?_; rintro e w2 ⟨⟨A2, c2, B2, d2, rfl, hcl2⟩, hb2⟩; have hba := (Below.refl w2.heap.size w2).alloc (Nat.le_refl _) (.cells #[.slice A2 n c2, .slice B2 m d2, .string mk] 26); have g2 := (hba.block _ (heap_lt ((hb2.block _ (heap_lt g1)).trans g1))).trans ((hb2.block _ (heap_lt g1)).trans g1); have gn2 := heap_alloc_new w2 (.cells #[.slice A2 n c2, .slice B2 m d2, .string mk] 26); have hbw2 := below_then (below_then hbw1 hbw1.size hb2) (by have := hbw1.size; have := hb2.size; omega) hba; have hcl3 := hcl2.keep hba; have hclo3 := ((hcl0.keep hb1).keep hb2).keep hba)
      | (refine wpList_load_row rfl 26 _ rfl w2.heap.size rfl 26 _ (0, 0) _ gn2 Tryz.underlying26 rfl rfl ?_)
      | (go_at_call 21; refine (HP1.out _ _ hcl3).mono ?_; rintro e w3 ⟨rfl, hb3⟩; have g3 := (hb3.block _ (heap_lt g2)).trans g2; have gn3 := (hb3.block _ (heap_lt gn2)).trans gn2; have hbw3 := below_then hbw2 hbw2.size hb3)
      | (refine wpList_load_row rfl 26 _ rfl w.heap.size rfl 26 _ (0, 0) _ g3 Tryz.underlying26 rfl rfl ?_)
      | (go_at_call 22; refine (HP2.out _ _ (hclo3.keep hb3)).mono ?_; rintro e w4 ⟨rfl, hb4⟩; have g4 := (hb4.block _ (heap_lt g3)).trans g3; have gn4 := (hb4.block _ (heap_lt gn3)).trans gn3; have hbw4 := below_then hbw3 hbw3.size hb4; have hcl4 := (hcl3.keep hb3).keep hb4; have hclo4 := (hclo3.keep hb3).keep hb4))
    have HS0 := writes_of (W := w4.drew) g4 gn4 (below_drw (Below.refl _ w4) 1)
    go_region_held3 (fun w' => w'.cell? ⟨w.heap.size, 0, none⟩ = some (.slice A n c) ∧ w'.cell? ⟨w.heap.size, 1, none⟩ = some (.slice B m d) ∧ w'.cell? ⟨w.heap.size, 2, none⟩ = some (.string mk) ∧ w'.cell? ⟨w2.heap.size, 0, none⟩ = some (.slice A2 n c2) ∧ w'.cell? ⟨w2.heap.size, 1, none⟩ = some (.slice B2 m d2) ∧ w'.cell? ⟨w2.heap.size, 2, none⟩ = some (.string mk) ∧ Below w4.heap.size w4 w') (first | exact HS0 | exact writes_step (by assumption) hb5 | exact writes_step (by assumption) hb6 | exact writes_step (by assumption) hb7 | exact writes_step (by assumption) hb8)
      (first
        | (go_at_call 11; refine (HC.out _ _ (hcl4.keep (writes_below (by assumption)))).mono ?_; rintro e w5 ⟨rfl, hb5⟩)
        | (go_at_call 23; refine (HL1.out _ _ (hcl4.keep (writes_below (by assumption)))).mono ?_; rintro e w6 ⟨rfl, hb6⟩)
        | (go_at_call 24; refine (HL2.out _ _ (hclo4.keep (writes_below (by assumption)))).mono ?_; rintro e w7 ⟨rfl, hb7⟩)
        | (go_at_call 10; refine (HSa.out _ _ _ (hcl4.keep (writes_below (by assumption))) (hclo4.keep (writes_below (by assumption)))).mono ?_; rintro e w8 ⟨rfl, hb8⟩))
    all_goals (
      go_wp2
      go_ret
      exact ⟨rfl, below_then hbw4 hbw4.size (writes_below (by assumption))⟩)
end Go.Proofs.YtbjgfjmknnbahaaGreatDoor

/-
  Proved: for every clue, clue's Check, Print and Letters are the document's, and what is printed is read back as the same clue. The conditions: what is read is of bulk at most 1048576; the row's own (the seven package-level variables that it lists hold what the program's text lays).
-/
namespace Go.Proofs.YtbjgfjmknnbahaaGreatDoor.clueWrites
open Go.ChangeShapes Go.WideShapes Go.ChangeAt Go.RowKit
open Go.ChangeMaps (open_string shut_string)

theorem laidOut : laidOutB Tryz.prog = true := by kernel_rfl
theorem read0 : Tryz.prog.readableRec 26 = true := by kernel_rfl
set_option maxRecDepth 100000 in
theorem contract (H : Type) (enc : TypeId × Value → H) (W : World) (base : Nat) (args : Array Value) (ds gs : List (DataW H)) (before : List MemPlace)
    (hval : ∀ (j : Nat) t v, Tryz.f6.params[j]? = some t → args[j]? = some v → Value.okWide Tryz.prog W .any base t v)
    (hW : DataW.Whole enc Tryz.prog Tryz.f6.params.toList Rows.clueWritesSpec.vars false W args.toList ds gs before) (hk : Rows.uptoSmall H (ds ++ gs) = true) (hL : laidMetH Tryz.prog Rows.clueWritesUptoRow.laid W) :
    Calls Tryz.prog 6 args W fun e W' => ∃ v, e = .returned v ∧ Rows.clueWritesSpec.post enc Tryz.prog Tryz.f6 false true false false W args v W' := by
  have hW' := hW
  obtain ⟨p, q, hA0, hV, rfl, hfz, hnd⟩ := hW
  have hA : DataW.TrodAll enc Tryz.prog W 0 (fun _ => true) true Tryz.f6.params.toList args.toList ds p := hA0
  rw [Tryz.params6] at hA hval
  obtain ⟨v0, vs0, d0, ds0, p0, q0, hargs0, rfl, rfl, h0, r0⟩ := trodAll_cons hA
  obtain ⟨rfl, rfl, rfl⟩ := trodAll_nil r0
  obtain rfl : args = #[v0] := by cases args; simp_all
  obtain ⟨rfl, rfl⟩ := trodVars_none hV
  have hb0 : Rows.uptoBulkAll ([d0] ++ []) ≤ 1048576 := of_decide_eq_true hk
  have hlt : ∀ x ∈ p0 ++ [], x.block < W.heap.size := fun x hx => hW'.lt x (by simpa using hx)
  have fin : ∀ W', Below W.heap.size W W' → ∃ v, Ending.returned (.bool true) = .returned v ∧ Rows.clueWritesSpec.post enc Tryz.prog Tryz.f6 false true false false W #[v0] v W' := fun W' hb =>
    ⟨_, rfl, post_of_below (pa := p0 ++ []) (pv := []) hW' (fun _ _ _ => trodAll_cons_mk (shut_bool Tryz.underlying4 _) trodAll_mk0) (fun sp hsp => trodAll_cons_mk (WideElems.Trod_stays laidOut read0 (of_decide_eq_true (by kernel_rfl)) h0 (fun x hx => hb.same (hlt x (by simp [hx]))) (fun x hx => hsp x (by simp [hx]))) (trodAll_mk0)) (fun _ _ => rfl) rfl
      hb (ok_one (by kernel_rfl) rfl (okWide_bool_mk Tryz.underlying4 _))⟩
  simp only [List.append_nil, Rows.uptoBulkAll, Nat.add_zero] at hb0
  obtain ⟨A, n, c, B, m, d, ws, zs, mk, rfl, hcl, hA1, hB1, hbk0⟩ := read_clue (hval 0 26 _ rfl rfl) h0
  have hwm : ∀ x ∈ ws, x.size ≤ 1048576 := fun x hx => Nat.le_trans (catB_mem hx) (by omega)
  refine (ClueWrites_any A n c B m d ws zs mk W hcl hA1 hB1 (by omega) (by omega) (by omega) hwm (vars_of hL)).mono fun e W' ⟨he, hb⟩ => ?_
  subst he
  exact fin W' hb
theorem reads (os : Os) {H : Type} (enc : TypeId × Value → H) : ∃ places, DataW.whole enc Tryz.prog ((laidWorld os).forCall (fun _ _ => 0) ⟨#[], #[.agg #[.slice none 0 0, .slice none 0 0, .string ⟨#[]⟩]], []⟩).memory Tryz.f6.params.toList Rows.clueWritesSpec.vars false (#[.agg #[.slice none 0 0, .slice none 0 0, .string ⟨#[]⟩]] : Array Value).toList 8 = some ([.agg [.nil, .nil, .lit (.string [])]], [], places) :=
  ⟨[], by kernel_rfl⟩

set_option maxRecDepth 100000 in
theorem lifted (os : Os) (started : os.Started) (H : Type) (enc : TypeId × Value → H) (F : Stop.Interp) :
    ReturnsInHanded {} Tryz.checked os 6 .any ((Rows.OpenSpec.upto Rows.clueWritesSpec).preRow enc Tryz.prog Tryz.f6 Rows.clueWritesUptoRow.domain false Rows.clueWritesUptoRow.laid) (((Rows.OpenSpec.upto Rows.clueWritesSpec).at F).post enc Tryz.prog Tryz.f6 false true false false) := by
  obtain ⟨places, hx⟩ := reads os enc
  refine returnsInHanded_of_row (C := Tryz.checked) (s := Rows.OpenSpec.upto Rows.clueWritesSpec) own started (by kernel_rfl) Tryz.func6
    (witness_row_atRef (enc := enc) (C := Tryz.checked) false (laidWorld os) #[.agg #[.slice none 0 0, .slice none 0 0, .string ⟨#[]⟩]] rfl (by kernel_rfl) (by kernel_rfl) (by kernel_rfl)
      (OpenSpec.preRow_of_cond 8 hx (by kernel_rfl) (fun k hk => by cases hk; kernel_rfl) (by kernel_rfl) (laid_met os _))) ?_
  intro W base args ds gs before hval hW _ hcond _ hL _ _
  exact contract H enc W base args ds gs before hval hW (hcond _ rfl) hL
theorem said : Rows.ClueWritesUptoSaid :=
  OpenClaim.holds_of_cond 6 Tryz.f6 rfl rfl rfl rfl rfl rfl rfl ⟨rfl, rfl, rfl, rfl, rfl⟩ rfl rfl rfl rfl rfl (by kernel_rfl) Tryz.func6 (by kernel_rfl)
    (of_decide_eq_true (by kernel_rfl)) (by unfold Func.isWrapper; first | (rw [if_pos (by decide +kernel)]; kernel_rfl) | (rw [if_neg (by decide +kernel)]; exact ⟨rfl, rfl⟩))
    (fun os started H enc _ F => by rw [OpenClaim.pre_eq_preRow]; exact lifted os started H enc F)
theorem plain (f : FuncId) (fn : Func) (hf : Tryz.pinned.checked.prog.funcNamed "rebus/rebuslaw16.ClueWrites" = some f) (hfn : Tryz.pinned.checked.prog.funcs[f]? = some fn) :
    true = Tryz.pinned.checked.prog.looks [] ∧ ∀ (j : Nat) t, fn.params[j]? = some t → Tryz.pinned.checked.prog.wantsStandIn t = false := by
  obtain rfl : f = 6 := Option.some.inj ((show Tryz.prog.funcNamed "rebus/rebuslaw16.ClueWrites" = some 6 by kernel_rfl).symm.trans hf) |>.symm
  obtain rfl : fn = Tryz.f6 := (Option.some.inj (Tryz.func6.symm.trans hfn)).symm
  refine ⟨by kernel_rfl, fun j t ht => ?_⟩
  rw [Tryz.params6] at ht
  have hm := Array.mem_of_getElem? ht
  simp only [List.mem_toArray, List.mem_cons, List.not_mem_nil, or_false] at hm
  subst hm
  exact (show Tryz.prog.wantsStandIn 26 = false by kernel_rfl)
/-- The tied card of the second form. -/
theorem card : Rows.ClueWritesUptoCardSaid :=
  Claim7.holds_tied_plain_at .later [] _ _ _ _ said (fun _ h => by cases h) (by kernel_rfl) (fun _ h => by cases h) clueWritesUpto_row_tie rfl ⟨rfl, rfl⟩ (by kernel_rfl) rfl plain (by kernel_rfl)
end Go.Proofs.YtbjgfjmknnbahaaGreatDoor.clueWrites
