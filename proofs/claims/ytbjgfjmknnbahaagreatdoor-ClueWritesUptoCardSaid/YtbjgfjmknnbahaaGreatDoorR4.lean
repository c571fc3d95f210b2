/- Texts joined: SizesG, RefSizes, Sum. -/
import Derived.Test.YtbjgfjmknnbahaaGreatDoorR2
import Derived.Test.YtbjgfjmknnbahaaGreatDoorR3
import Derived.Lib.AtoiAll
import Derived.Lib.IndexAny
import Derived.Lib.Strings
/- Plain Lean: clue.sizes' way to read sizes and the document's are one. -/
set_option linter.unusedVariables false
set_option linter.unusedSimpArgs false
namespace Go.Proofs.YtbjgfjmknnbahaaGreatDoor
open Go.RowKit

/-- Where the first comma or dash stands; without one, the text's size. -/
def cutJ (t : ByteArray) : Nat := if Lib.indexAny t.data.toList [44, 45] < 0 then t.size else (Lib.indexAny t.data.toList [44, 45]).toNat
def okN (l : List Nat) : Bool := okZ (l.map Int.ofNat)
/-- Piece by piece, as clue.sizes goes. -/
def sizesG : Nat → ByteArray → List Nat → ByteArray → Option (List Nat × ByteArray)
  | 0, _, _, _ => none
  | f + 1, t, l, mk =>
    match Lib.atoiAll (t.extract 0 (cutJ t)).data.toList with
    | .ok v =>
      if 2 < cutJ t ∨ (t.get! 0).toNat < 49 ∨ 57 < (t.get! 0).toNat then none
      else if cutJ t < t.size then sizesG f (t.extract (cutJ t + 1) t.size) (l ++ [v.toNat]) (mk ++ t.extract (cutJ t) (cutJ t + 1))
      else if okN (l ++ [v.toNat]) then some (l ++ [v.toNat], mk) else none
    | _ => none

theorem atoi_ok {c : UInt8} {r : List UInt8} {u : Nat} (h0 : 49 ≤ c.toNat) (h1 : c.toNat ≤ 57) (hm : Lib.parseMag (c :: r) = .ok u) (hu : u < 100) : Lib.atoiAll (c :: r) = .ok (u : Int) := by
  unfold Lib.atoiAll
  simp only
  rw [if_neg (show ¬ (c.toNat = 43 ∨ c.toNat = 45) by omega), hm]
  simp only
  rw [if_neg (by omega), if_neg (by omega), if_neg (by omega)]
theorem atoi_syn {c : UInt8} {r : List UInt8} (h0 : 49 ≤ c.toNat) (h1 : c.toNat ≤ 57) (hm : Lib.parseMag (c :: r) = Lib.parseMag []) : Lib.atoiAll (c :: r) = Lib.atoiAll [] := by
  unfold Lib.atoiAll
  simp only
  rw [if_neg (show ¬ (c.toNat = 43 ∨ c.toNat = 45) by omega), hm]
  rfl
theorem atoi_1 (c : UInt8) (h0 : 49 ≤ c.toNat) (h1 : c.toNat ≤ 57) : Lib.atoiAll [c] = .ok ((c.toNat - 48 : Nat) : Int) := by
  refine atoi_ok h0 h1 ?_ (by omega)
  simp only [Lib.parseMag, Lib.parseUint10]
  rw [if_neg (by simp), if_pos (by omega), if_neg (by omega), if_neg (by omega)]
  congr 1
  omega
theorem atoi_2 (c d : UInt8) (h0 : 49 ≤ c.toNat) (h1 : c.toNat ≤ 57) (h2 : 48 ≤ d.toNat) (h3 : d.toNat ≤ 57) : Lib.atoiAll [c, d] = .ok (((c.toNat - 48) * 10 + (d.toNat - 48) : Nat) : Int) := by
  refine atoi_ok h0 h1 ?_ (by omega)
  simp only [Lib.parseMag, Lib.parseUint10]
  rw [if_neg (by simp), if_pos (by omega), if_neg (by omega), if_neg (by omega), if_pos (by omega), if_neg (by omega), if_neg (by omega)]
  congr 1
  omega
theorem atoi_2n (c d : UInt8) (h0 : 49 ≤ c.toNat) (h1 : c.toNat ≤ 57) (h2 : ¬ (48 ≤ d.toNat ∧ d.toNat ≤ 57)) : Lib.atoiAll [c, d] = Lib.atoiAll [] := by
  refine atoi_syn h0 h1 ?_
  rw [Lib.parseMag, if_neg (by simp)]
  simp only [Lib.parseUint10]
  rw [if_pos (by omega), if_neg (by omega), if_neg (by omega), if_neg h2]
  rfl
theorem get_bang_list (t : ByteArray) (j : Nat) (h : j < t.size) : t.data.toList[j]? = some (t.get! j) := by
  have hd : j < t.data.size := h
  rw [ByteArray.get!, getElem!_pos t.data j hd]
  simp [Array.getElem?_toList, hd]
theorem idxAny_spec (chars : List UInt8) : ∀ l : List UInt8, (Lib.indexAny l chars = -1 ∧ ∀ (x : Nat) b, l[x]? = some b → chars.contains b = false) ∨ (∃ i : Nat, Lib.indexAny l chars = i ∧ (∃ b, l[i]? = some b ∧ chars.contains b = true) ∧ ∀ (x : Nat) b, x < i → l[x]? = some b → chars.contains b = false)
  | [] => .inl ⟨rfl, fun x b h => by simp at h⟩
  | b :: l => by
    unfold Lib.indexAny
    cases hc : chars.contains b with
    | true => exact .inr ⟨0, by simp, ⟨b, rfl, hc⟩, fun x b h => absurd h (Nat.not_lt_zero x)⟩
    | false =>
      simp only [Bool.false_eq_true, if_false]
      rcases idxAny_spec chars l with ⟨h1, h2⟩ | ⟨i, h1, h2, h3⟩
      · left
        rw [h1]
        refine ⟨rfl, fun x y hx => ?_⟩
        cases x with
        | zero => simp at hx; subst hx; exact hc
        | succ x => exact h2 x y (by simpa using hx)
      · right
        rw [h1]
        refine ⟨i + 1, ?_, ?_, fun x y hx hy => ?_⟩
        · rw [if_neg (by simp)]
          omega
        · simpa using h2
        · cases x with
          | zero => simp at hy; subst hy; exact hc
          | succ x => exact h3 x y (by omega) (by simpa using hy)
theorem sepB (b : UInt8) : [44, 45].contains b = (decide (b.toNat = 44) || decide (b.toNat = 45)) := by
  rw [Bool.eq_iff_iff]
  simp only [List.contains_iff_mem, List.mem_cons, List.not_mem_nil, or_false, Bool.or_eq_true, decide_eq_true_eq, ← UInt8.toNat_inj]
  rfl
theorem cutJ_spec (t : ByteArray) : cutJ t ≤ t.size ∧ (∀ x, x < cutJ t → (t.get! x).toNat ≠ 44 ∧ (t.get! x).toNat ≠ 45) ∧ (cutJ t < t.size → (t.get! (cutJ t)).toNat = 44 ∨ (t.get! (cutJ t)).toNat = 45) := by
  unfold cutJ
  rcases idxAny_spec [44, 45] t.data.toList with ⟨h1, h2⟩ | ⟨i, h1, ⟨b, h2, h3⟩, h4⟩
  · rw [h1, if_pos (by omega)]
    refine ⟨Nat.le_refl _, fun x hx => ?_, fun h => by omega⟩
    have := h2 x _ (get_bang_list t x hx)
    rw [sepB] at this
    simpa using this
  · rw [h1, if_neg (by omega), Int.toNat_natCast]
    have hi : i < t.size := by
      have := (List.getElem?_eq_some_iff.1 h2).1
      rw [← Lib.size_eq] at this
      exact this
    refine ⟨by omega, fun x hx => ?_, fun _ => ?_⟩
    · have := h4 x _ hx (get_bang_list t x (by omega))
      rw [sepB] at this
      simpa using this
    · rw [get_bang_list t i hi] at h2
      injection h2 with h2
      subst h2
      rw [sepB] at h3
      simpa using h3
theorem ok_iff : ∀ (l : List Nat) (a : Nat), a ≤ 24 → (okFrom (l.map Int.ofNat) a = true ↔ (∀ x ∈ l, 1 ≤ x ∧ x ≤ 24) ∧ a + l.sum ≤ 24 ∧ 0 < a + l.sum)
  | [], a, h => by simp [okFrom]; omega
  | x :: l, a, h => by
    simp only [List.map_cons, okFrom, List.sum_cons, List.forall_mem_cons]
    by_cases h1 : x < 1 ∨ 24 < x
    · rw [if_pos (by simp only [Int.ofNat_eq_natCast]; omega)]
      constructor
      · intro h; cases h
      · rintro ⟨⟨⟨_, _⟩, _⟩, _⟩; omega
    · rw [if_neg (by simp only [Int.ofNat_eq_natCast]; omega)]
      by_cases h2 : 24 < a + x
      · rw [if_pos (by simp only [Int.ofNat_eq_natCast]; omega)]
        constructor
        · intro h; cases h
        · rintro ⟨_, h3, _⟩; omega
      · rw [if_neg (by simp only [Int.ofNat_eq_natCast]; omega)]
        have := ok_iff l (a + x) (by omega)
        rw [show ((a : Int) + Int.ofNat x) = ((a + x : Nat) : Int) by simp, this]
        constructor
        · rintro ⟨k1, k2, k3⟩; exact ⟨⟨⟨by omega, by omega⟩, k1⟩, by omega, by omega⟩
        · rintro ⟨⟨_, k1⟩, k2, k3⟩; exact ⟨k1, by omega, by omega⟩
theorem okN_iff (l : List Nat) : okN l = true ↔ (∀ x ∈ l, 1 ≤ x ∧ x ≤ 24) ∧ l.sum ≤ 24 ∧ 0 < l.sum := by
  have := ok_iff l 0 (by omega)
  simp only [Nat.zero_add] at this
  exact this
/-- What is already wrong stays wrong. -/
theorem okN_bad {l : List Nat} {n : Nat} (h : (∃ x ∈ l, ¬ (1 ≤ x ∧ x ≤ 24)) ∨ 24 < l.sum) : okN (l ++ [n]) = false := by
  cases ho : okN (l ++ [n]) with
  | false => rfl
  | true =>
    obtain ⟨h1, h2, h3⟩ := (okN_iff _).1 ho
    rw [List.sum_append] at h2
    rcases h with ⟨x, hx, hb⟩ | h
    · exact absurd (h1 x (List.mem_append_left _ hx)) hb
    · omega
theorem sizesG_bad : ∀ (f : Nat) (t : ByteArray) (l : List Nat) (mk : ByteArray), (∃ x ∈ l, ¬ (1 ≤ x ∧ x ≤ 24)) ∨ 24 < l.sum → sizesG f t l mk = none
  | 0, _, _, _, _ => rfl
  | f + 1, t, l, mk, h => by
    unfold sizesG
    split
    · rename_i v hv
      split
      · rfl
      · split
        · refine sizesG_bad f _ _ _ ?_
          rcases h with ⟨x, hx, hb⟩ | h
          · exact .inl ⟨x, List.mem_append_left _ hx, hb⟩
          · right; rw [List.sum_append]; omega
        · rw [okN_bad h]; rfl
    · rfl
theorem ext_bang (s : ByteArray) (p x : Nat) (h : p + x < s.size) : (s.extract p s.size).get! x = s.get! (p + x) := by
  have h1 : x < (s.extract p s.size).data.size := by show x < (s.extract p s.size).size; rw [ByteArray.size_extract]; omega
  have h2 : p + x < s.data.size := h
  show (s.extract p s.size).data[x]! = s.data[p + x]!
  rw [getElem!_pos (s.extract p s.size).data x h1, getElem!_pos s.data (p + x) h2]
  exact ByteArray.getElem_extract (b := s) (start := p) (stop := s.size) (i := x) (h := h1)
theorem mach_digit (s : ByteArray) (f i : Nat) (l : List Nat) (mk : ByteArray) (n d sm : Nat) (hi : i < s.size) (h0 : 48 ≤ (s.get! i).toNat) (h1 : (s.get! i).toNat ≤ 57) :
    mach s (f + 1) i l mk n d sm = if d = 2 ∨ (d = 1 ∧ n = 0) then none else mach s f (i + 1) l mk (n * 10 + ((s.get! i).toNat - 48)) (d + 1) sm := by
  rw [mach, if_pos hi, if_pos ⟨h0, h1⟩]
theorem mach_other (s : ByteArray) (f i : Nat) (l : List Nat) (mk : ByteArray) (n d sm : Nat) (hi : i < s.size) (h0 : ¬ (48 ≤ (s.get! i).toNat ∧ (s.get! i).toNat ≤ 57)) (h1 : (s.get! i).toNat ≠ 44 ∧ (s.get! i).toNat ≠ 45) :
    mach s (f + 1) i l mk n d sm = none := by
  rw [mach, if_pos hi, if_neg h0, if_pos (.inr h1)]
theorem mach_d0 (s : ByteArray) (f i : Nat) (l : List Nat) (mk : ByteArray) (sm : Nat) (hi : i < s.size) (h0 : 48 ≤ (s.get! i).toNat) (h1 : (s.get! i).toNat ≤ 57) :
    mach s (f + 1) i l mk 0 0 sm = mach s f (i + 1) l mk ((s.get! i).toNat - 48) 1 sm := by
  rw [mach_digit s f i l mk 0 0 sm hi h0 h1, if_neg (by omega), Nat.zero_mul, Nat.zero_add]
theorem mach_d1 (s : ByteArray) (f i : Nat) (l : List Nat) (mk : ByteArray) (n sm : Nat) (hi : i < s.size) (h0 : 48 ≤ (s.get! i).toNat) (h1 : (s.get! i).toNat ≤ 57) (hn : n ≠ 0) :
    mach s (f + 1) i l mk n 1 sm = mach s f (i + 1) l mk (n * 10 + ((s.get! i).toNat - 48)) 2 sm := by
  rw [mach_digit s f i l mk n 1 sm hi h0 h1, if_neg (by omega)]
/-- Behind a whole number: a mark, or the end. -/
theorem mach_after (s : ByteArray) (F f i : Nat) (l : List Nat) (mk : ByteArray) (n d : Nat) (hi : i ≤ s.size) (hF : s.size ≤ i + F) (hn : 1 ≤ n) (hl : ∀ x ∈ l, 1 ≤ x ∧ x ≤ 24)
    (hsep : i < s.size → (s.get! i).toNat = 44 ∨ (s.get! i).toNat = 45)
    (ih : i < s.size → n ≤ 24 → ∀ F', s.size ≤ i + 1 + F' → sizesG f (s.extract (i + 1) s.size) (l ++ [n]) (mk ++ s.extract i (i + 1)) = mach s F' (i + 1) (l ++ [n]) (mk ++ s.extract i (i + 1)) 0 0 (l ++ [n]).sum) :
    (if i < s.size then sizesG f (s.extract (i + 1) s.size) (l ++ [n]) (mk ++ s.extract i (i + 1)) else if okN (l ++ [n]) then some (l ++ [n], mk) else none) = mach s F i l mk n d l.sum := by
  by_cases hlt : i < s.size
  · obtain ⟨F, rfl⟩ : ∃ F', F = F' + 1 := ⟨F - 1, by omega⟩
    have hs := hsep hlt
    rw [if_pos hlt, mach, if_pos hlt, if_neg (by omega)]
    by_cases hb : n < 1 ∨ 24 < n ∨ 24 < l.sum
    · rw [if_pos (.inl hb)]
      refine sizesG_bad _ _ _ _ ?_
      rcases hb with h | h | h
      · omega
      · exact .inl ⟨n, by simp, by omega⟩
      · right; rw [List.sum_append]; omega
    · rw [if_neg (by omega), ih hlt (by omega) F (by omega), List.sum_append]
      simp
  · rw [if_neg hlt, mach_end s _ _ _ _ _ _ _ hlt]
    unfold machEnd
    by_cases hb : n < 1 ∨ 24 < n ∨ 24 < l.sum
    · rw [if_pos hb]
      have : okN (l ++ [n]) = false := by
        cases ho : okN (l ++ [n]) with
        | false => rfl
        | true =>
          obtain ⟨h1, h2, h3⟩ := (okN_iff _).1 ho
          have := h1 n (by simp)
          rw [List.sum_append] at h2
          omega
      rw [this]; rfl
    · rw [if_neg hb]
      by_cases h24 : l.sum + n ≤ 24
      · have : okN (l ++ [n]) = true := by
          rw [okN_iff]
          refine ⟨fun x hx => ?_, by rw [List.sum_append]; simpa using h24, by rw [List.sum_append]; simp; omega⟩
          rcases List.mem_append.1 hx with h | h
          · exact hl x h
          · simp at h; omega
        rw [this, if_pos h24]; rfl
      · have : okN (l ++ [n]) = false := by
          cases ho : okN (l ++ [n]) with
          | false => rfl
          | true =>
            obtain ⟨h1, h2, h3⟩ := (okN_iff _).1 ho
            rw [List.sum_append] at h2
            simp at h2
            omega
        rw [this, if_neg h24]; rfl
theorem piece1 (t : ByteArray) (h : 1 ≤ t.size) : (t.extract 0 1).data.toList = [t.get! 0] := by
  rw [Lib.extract_data, List.drop_zero, Nat.sub_zero]
  have := get_bang_list t 0 h
  cases hl : t.data.toList with
  | nil => rw [hl] at this; simp at this
  | cons a r => rw [hl] at this; simp at this; simp [this]
theorem piece2 (t : ByteArray) (h : 2 ≤ t.size) : (t.extract 0 2).data.toList = [t.get! 0, t.get! 1] := by
  rw [Lib.extract_data, List.drop_zero, Nat.sub_zero]
  have h0 := get_bang_list t 0 (by omega)
  have h1 := get_bang_list t 1 (by omega)
  cases hl : t.data.toList with
  | nil => rw [hl] at h0; simp at h0
  | cons a r =>
    rw [hl] at h0 h1
    simp only [List.getElem?_cons_zero, Option.some.injEq, List.getElem?_cons_succ] at h0 h1
    cases r with
    | nil => simp at h1
    | cons b r => simp at h1; simp [h0, h1]
theorem sizesG_eq (s : ByteArray) : ∀ (f p F : Nat) (l : List Nat) (mk : ByteArray), s.size + 1 ≤ p + f → p ≤ s.size → (∀ x ∈ l, 1 ≤ x ∧ x ≤ 24) → s.size ≤ p + F → sizesG f (s.extract p s.size) l mk = mach s F p l mk 0 0 l.sum
  | 0, p, F, l, mk, h, hp, hl, hF => by omega
  | f + 1, p, F, l, mk, h, hp, hl, hF => by
    obtain ⟨c1, c2, c3⟩ := cutJ_spec (s.extract p s.size)
    have hsz : (s.extract p s.size).size = s.size - p := by rw [ByteArray.size_extract]; omega
    have hg : ∀ x, p + x < s.size → (s.extract p s.size).get! x = s.get! (p + x) := fun x hx => ext_bang s p x hx
    have ih : ∀ i n, i < s.size → p ≤ i → 1 ≤ n → n ≤ 24 → ∀ F', s.size ≤ i + 1 + F' → sizesG f (s.extract (i + 1) s.size) (l ++ [n]) (mk ++ s.extract i (i + 1)) = mach s F' (i + 1) (l ++ [n]) (mk ++ s.extract i (i + 1)) 0 0 (l ++ [n]).sum := by
      intro i n h1 h2 h3 h4 F' hF'
      refine sizesG_eq s f (i + 1) F' (l ++ [n]) _ (by omega) (by omega) ?_ hF'
      intro x hx
      rcases List.mem_append.1 hx with h | h
      · exact hl x h
      · simp at h; omega
    have hx2 : ∀ j, (s.extract p s.size).extract (j + 1) (s.size - p) = s.extract (p + j + 1) s.size := by
      intro j
      rw [ByteArray.extract_extract]
      congr 1
      omega
    have hx3 : ∀ j, p + j < s.size → (s.extract p s.size).extract j (j + 1) = s.extract (p + j) (p + j + 1) := by
      intro j hj
      rw [ByteArray.extract_extract]
      congr 1
      omega
    have p1 := piece1 (s.extract p s.size)
    have p2 := piece2 (s.extract p s.size)
    rw [sizesG]
    generalize hj : cutJ (s.extract p s.size) = j at c1 c2 c3 ⊢
    rw [hsz] at c1 c3 p1 p2
    have b0 : (s.get! p).toNat < 256 := (s.get! p).toNat_lt
    rcases Nat.lt_or_ge 2 j with hj3 | hj3
    · -- three bytes or more
      have l0 : (match Lib.atoiAll ((s.extract p s.size).extract 0 j).data.toList with | .ok v => if 2 < j ∨ ((s.extract p s.size).get! 0).toNat < 49 ∨ 57 < ((s.extract p s.size).get! 0).toNat then none else if j < (s.extract p s.size).size then sizesG f ((s.extract p s.size).extract (j + 1) (s.extract p s.size).size) (l ++ [v.toNat]) (mk ++ (s.extract p s.size).extract j (j + 1)) else if okN (l ++ [v.toNat]) then some (l ++ [v.toNat], mk) else none | _ => (none : Option (List Nat × ByteArray))) = none := by
        split
        · rw [if_pos (.inl hj3)]
        · rfl
      rw [l0]
      have d0 := c2 0 (by omega)
      have d1 := c2 1 (by omega)
      have d2 := c2 2 (by omega)
      rw [hg 0 (by omega), Nat.add_zero] at d0
      rw [hg 1 (by omega)] at d1
      rw [hg 2 (by omega)] at d2
      obtain ⟨F, rfl⟩ : ∃ F', F = F' + 1 + 1 + 1 := ⟨F - 3, by omega⟩
      by_cases e0 : 48 ≤ (s.get! p).toNat ∧ (s.get! p).toNat ≤ 57
      · rw [mach_digit s _ p _ _ _ _ _ (by omega) e0.1 e0.2, if_neg (by omega)]
        by_cases e1 : 48 ≤ (s.get! (p + 1)).toNat ∧ (s.get! (p + 1)).toNat ≤ 57
        · rw [mach_digit s _ (p + 1) _ _ _ _ _ (by omega) e1.1 e1.2]
          split
          · rfl
          · by_cases e2 : 48 ≤ (s.get! (p + 2)).toNat ∧ (s.get! (p + 2)).toNat ≤ 57
            · rw [mach_digit s _ (p + 1 + 1) _ _ _ _ _ (by omega) e2.1 e2.2, if_pos (by omega)]
            · rw [mach_other s _ (p + 1 + 1) _ _ _ _ _ (by omega) e2 d2]
        · rw [mach_other s _ (p + 1) _ _ _ _ _ (by omega) e1 d1]
      · rw [mach_other s _ p _ _ _ _ _ (by omega) e0 d0]
    · rcases (show j = 0 ∨ j = 1 ∨ j = 2 by omega) with rfl | rfl | rfl
      · -- nothing
        have l0 : ((s.extract p s.size).extract 0 0).data.toList = [] := by simp
        rw [l0]
        show none = _
        by_cases hlt : p < s.size
        · obtain ⟨F, rfl⟩ : ∃ F', F = F' + 1 := ⟨F - 1, by omega⟩
          have := c3 (by omega)
          rw [hg 0 (by omega), Nat.add_zero] at this
          rw [mach, if_pos hlt, if_neg (by omega), if_pos (.inl (.inl (by omega)))]
        · rw [mach_end s _ _ _ _ _ _ _ hlt]
          unfold machEnd
          rw [if_pos (.inl (by omega))]
      · -- one byte
        have d0 := c2 0 (by omega)
        rw [hg 0 (by omega), Nat.add_zero] at d0
        rw [p1 (by omega), hg 0 (by omega), Nat.add_zero]
        obtain ⟨F, rfl⟩ : ∃ F', F = F' + 1 := ⟨F - 1, by omega⟩
        by_cases e0 : 49 ≤ (s.get! p).toNat ∧ (s.get! p).toNat ≤ 57
        · rw [atoi_1 _ e0.1 e0.2]
          simp only
          rw [if_neg (by omega), hsz, hx2, Int.toNat_natCast, mach_d0 s _ p _ _ _ (by omega) (by omega) e0.2]
          have hA := mach_after s F f (p + 1) l mk ((s.get! p).toNat - 48) 1 (by omega) (by omega) (by omega) hl
            (fun h => by have := c3 (by omega); rwa [hg 1 (by omega)] at this) (fun h1 h2 F' hF' => ih (p + 1) _ h1 (by omega) (by omega) h2 F' hF')
          rw [← hA]
          by_cases hlt : p + 1 < s.size
          · rw [if_pos (by omega), if_pos hlt, hx3 1 hlt]
          · rw [if_neg (by omega), if_neg hlt]
        · have l0 : ∀ X : Option (List Nat × ByteArray), (match Lib.atoiAll [s.get! p] with | .ok v => if 2 < 1 ∨ (s.get! p).toNat < 49 ∨ 57 < (s.get! p).toNat then none else if 1 < (s.extract p s.size).size then sizesG f ((s.extract p s.size).extract (1 + 1) (s.extract p s.size).size) (l ++ [v.toNat]) (mk ++ (s.extract p s.size).extract 1 (1 + 1)) else if okN (l ++ [v.toNat]) then some (l ++ [v.toNat], mk) else none | _ => (none : Option (List Nat × ByteArray))) = none := by
            intro X
            split
            · rw [if_pos (by omega)]
            · rfl
          rw [l0 none]
          by_cases e1 : 48 ≤ (s.get! p).toNat ∧ (s.get! p).toNat ≤ 57
          · rw [mach_digit s _ p _ _ _ _ _ (by omega) e1.1 e1.2, if_neg (by omega)]
            have hz : 0 * 10 + ((s.get! p).toNat - 48) = 0 := by omega
            rw [hz]
            by_cases hlt : p + 1 < s.size
            · obtain ⟨F, rfl⟩ : ∃ F', F = F' + 1 := ⟨F - 1, by omega⟩
              have := c3 (by omega)
              rw [hg 1 (by omega)] at this
              rw [mach, if_pos hlt, if_neg (by omega), if_pos (.inl (.inl (by omega)))]
            · rw [mach_end s _ _ _ _ _ _ _ hlt]
              unfold machEnd
              rw [if_pos (.inl (by omega))]
          · rw [mach_other s _ p _ _ _ _ _ (by omega) e1 d0]
      · -- two bytes
        have d0 := c2 0 (by omega)
        have d1 := c2 1 (by omega)
        rw [hg 0 (by omega), Nat.add_zero] at d0
        rw [hg 1 (by omega)] at d1
        rw [p2 (by omega), hg 0 (by omega), hg 1 (by omega), Nat.add_zero]
        obtain ⟨F, rfl⟩ : ∃ F', F = F' + 1 + 1 := ⟨F - 2, by omega⟩
        by_cases e0 : 49 ≤ (s.get! p).toNat ∧ (s.get! p).toNat ≤ 57
        · rw [mach_d0 s _ p _ _ _ (by omega) (by omega) e0.2]
          by_cases e1 : 48 ≤ (s.get! (p + 1)).toNat ∧ (s.get! (p + 1)).toNat ≤ 57
          · rw [atoi_2 _ _ e0.1 e0.2 e1.1 e1.2]
            simp only
            rw [if_neg (by omega), hsz, hx2, Int.toNat_natCast, mach_d1 s _ (p + 1) _ _ _ _ (by omega) e1.1 e1.2 (by omega)]
            have hA := mach_after s F f (p + 2) l mk (((s.get! p).toNat - 48) * 10 + ((s.get! (p + 1)).toNat - 48)) 2 (by omega) (by omega) (by omega) hl
              (fun h => by have := c3 (by omega); rwa [hg 2 (by omega)] at this) (fun h1 h2 F' hF' => ih (p + 2) _ h1 (by omega) (by omega) h2 F' hF')
            rw [show p + 1 + 1 = p + 2 by omega, ← hA]
            by_cases hlt : p + 2 < s.size
            · rw [if_pos (by omega), if_pos hlt, hx3 2 hlt]
            · rw [if_neg (by omega), if_neg hlt]
          · rw [atoi_2n _ _ e0.1 e0.2 e1]
            show none = _
            rw [mach_other s _ (p + 1) _ _ _ _ _ (by omega) e1 d1]
        · have l0 : (match Lib.atoiAll [s.get! p, s.get! (p + 1)] with | .ok v => if 2 < 2 ∨ (s.get! p).toNat < 49 ∨ 57 < (s.get! p).toNat then none else if 2 < (s.extract p s.size).size then sizesG f ((s.extract p s.size).extract (2 + 1) (s.extract p s.size).size) (l ++ [v.toNat]) (mk ++ (s.extract p s.size).extract 2 (2 + 1)) else if okN (l ++ [v.toNat]) then some (l ++ [v.toNat], mk) else none | _ => (none : Option (List Nat × ByteArray))) = none := by
            split
            · rw [if_pos (by omega)]
            · rfl
          rw [l0]
          by_cases e1 : 48 ≤ (s.get! p).toNat ∧ (s.get! p).toNat ≤ 57
          · rw [mach_digit s _ p _ _ _ _ _ (by omega) e1.1 e1.2, if_neg (by omega)]
            have hz : 0 * 10 + ((s.get! p).toNat - 48) = 0 := by omega
            rw [hz]
            by_cases e2 : 48 ≤ (s.get! (p + 1)).toNat ∧ (s.get! (p + 1)).toNat ≤ 57
            · rw [mach_digit s _ (p + 1) _ _ _ _ _ (by omega) e2.1 e2.2, if_pos (by omega)]
            · rw [mach_other s _ (p + 1) _ _ _ _ _ (by omega) e2 d1]
          · rw [mach_other s _ p _ _ _ _ _ (by omega) e1 d0]
theorem sizesG_all (s : ByteArray) : sizesG (s.size + 1) s [] ByteArray.empty = sizesF s := by
  have := sizesG_eq s (s.size + 1) 0 s.size [] ByteArray.empty (by omega) (Nat.zero_le _) (by simp) (by omega)
  rw [ByteArray.extract_zero_size] at this
  exact this
end Go.Proofs.YtbjgfjmknnbahaaGreatDoor

/- Contract: rebusref16.sizes. -/
set_option linter.unusedVariables false
set_option linter.unusedSimpArgs false
namespace Go.Proofs.YtbjgfjmknnbahaaGreatDoor
open Go.RowKit

/-- What is told of sizes: the list in new memory, the marks, true; or whatever, and false. -/
def SizesTold (w w' : World) (R : Option (List Nat × ByteArray)) (e : Ending) : Prop :=
  Below w.heap.size w w' ∧ ((∃ l mk A c, R = some (l, mk) ∧ e = .returned (.tuple #[.slice A l.length c, .string mk, .bool true]) ∧ l.length ≤ c ∧ c ≤ maxLen ∧ w'.ownsRow w.heap.size 3 1 (.slice A l.length c) l.length (l.map eI) ∧ Rd w' 1 A l.length (l.map eI))
    ∨ (R = none ∧ ∃ v mk, e = .returned (.tuple #[v, .string mk, .bool false])))
theorem told_no {w w' : World} {R : Option (List Nat × ByteArray)} {v : Value} {mk : ByteArray} (hb : Below w.heap.size w w') (hR : R = none) : SizesTold w w' R (.returned (.tuple #[v, .string mk, .bool false])) :=
  ⟨hb, .inr ⟨hR, v, mk, rfl⟩⟩
theorem told_yes {w w' : World} {R : Option (List Nat × ByteArray)} {v : Value} {l : List Nat} {mk : ByteArray} (hb : Below w.heap.size w w') (hR : R = some (l, mk)) (ho : w'.ownsRow w.heap.size 3 1 v l.length (l.map eI)) : SizesTold w w' R (.returned (.tuple #[v, .string mk, .bool true])) := by
  obtain ⟨A, c, rfl, h1, h2, h3⟩ := own_rd ho
  exact ⟨hb, .inl ⟨l, mk, A, c, hR, rfl, h1, h2, ho, h3⟩⟩
theorem own_snoc {w : World} {B E k : Nat} {v : Value} {l : List Nat} {n : Nat} (h : w.ownsRow B E k v (l.length + 1) (l.map eI ++ [eI n])) : w.ownsRow B E k v (l ++ [n]).length ((l ++ [n]).map eI) := by
  rw [List.length_append, List.map_append]; exact h
theorem bang_at (s : ByteArray) (p : Nat) : ∀ h, (s[p]'h).toNat = (s.get! p).toNat := by
  intro h
  rw [ByteArray.get!, getElem!_pos s.data p (by simpa using h)]
  rfl

set_option maxHeartbeats 4000000 in
set_option maxRecDepth 100000 in
theorem RefSizes_any (s : ByteArray) (w : World) (hs : s.size ≤ 4294967296) :
    Calls Tryz.prog 35 #[.string s] w fun e w' => SizesTold w w' (sizesF s) e := by
  obtain ⟨i0, hi, hz0, hz1, hz2⟩ := info_parts info_i64
  have hR : mach s s.size 0 [] ByteArray.empty 0 0 0 = sizesF s := rfl
  generalize sizesF s = R at hR ⊢
  have HR := Lib.hid hR
  clear hR
  go_enter Tryz.func35, Tryz.ntmps35
  go_wp2
  go_loopw [5, 6, 7, 8, 9, 10] (fun v m n d sm i wr => ∃ (f pos nn dd ss : Nat) (l : List Nat) (mk : ByteArray), i = .int .i64 pos ∧ m = .string mk ∧ n = .int .i64 nn ∧ d = .int .i64 dd ∧ sm = .int .i64 ss ∧ wr.ownsRow w.heap.size 3 1 v l.length (l.map eI)
      ∧ ((pos ≤ s.size ∧ s.size ≤ pos + f ∧ mach s f pos l mk nn dd ss = R) ∨ (pos = s.size + 1 ∧ (if ss ≤ 24 then some (l, mk) else none) = R)) ∧ dd ≤ 2 ∧ (dd = 0 → nn = 0) ∧ (dd ≤ 1 → nn ≤ 9) ∧ nn ≤ 99 ∧ ss ≤ 48 ∧ l.length ≤ pos ∧ mk.size ≤ pos ∧ Below w.heap.size w wr) (fun _ _ _ _ _ i _ => s.size + 1 - (intOf i).toNat)
  case atStart => exact ⟨s.size, 0, 0, 0, 0, [], ByteArray.empty, rfl, rfl, rfl, rfl, rfl, World.ownsRow_nil _ _ _ _, .inl ⟨by omega, by omega, HR.out⟩, by omega, by omega, by omega, by omega, by omega, by simp, by simp, Below.refl _ _⟩
  case round =>
    obtain ⟨f, pos, nn, dd, ss, l, mk, rfl, rfl, rfl, rfl, rfl, hown, hph, hd2, hd0, hd1, hn9, hs4, hll, hml, hbw⟩ := hrel
    have hsz := hbw.size
    rcases hph with ⟨hps, hfu, hm⟩ | ⟨rfl, hm⟩
    · by_cases hp : pos < s.size
      · obtain ⟨f, rfl⟩ : ∃ f', f = f' + 1 := ⟨f - 1, by omega⟩
        unfold mach at hm
        rw [if_pos hp] at hm
        have hb := bang_at s pos
        have hb9 := (s.get! pos).toNat_lt
        generalize (s.get! pos).toNat = B at hm hb hb9
        by_cases hdg : 48 ≤ B ∧ B ≤ 57
        · rw [if_pos hdg] at hm
          obtain ⟨hg1, hg2⟩ := hdg
          by_cases hbad : dd = 2 ∨ (dd = 1 ∧ nn = 0)
          · rw [if_pos hbad] at hm
            have Hm := Lib.hid hm
            clear hm
            rcases hbad with rfl | ⟨rfl, rfl⟩
            all_goals (
              go_wp2
              go_ret3
              exact told_no hbw Hm.out.symm)
          · rw [if_neg hbad] at hm
            have Hm := Lib.hid hm
            clear hm
            have hdd : dd < 2 := by omega
            by_cases hd9 : dd = 0
            · have hnn := hd0 hd9
              subst hd9; subst hnn
              clear hd0 hd1 hbad
              go_wp2
              go_roundw
              case rel => exact ⟨f, pos + 1, _, 1, ss, l, mk, by go_num, rfl, congrArg (Value.int .i64) (by omega), by go_num, rfl, hown, .inl ⟨by omega, by omega, Hm.out⟩, by omega, by omega, by omega, by omega, by omega, by omega, by omega, hbw⟩
              case measure => simp [intOf]; omega
            · obtain rfl : dd = 1 := by omega
              have hnn := hd1 (by omega)
              have hnz : nn ≠ 0 := fun h => hbad (.inr ⟨rfl, h⟩)
              clear hd0 hd1 hbad
              go_wp2
              go_roundw
              case rel => exact ⟨f, pos + 1, _, 2, ss, l, mk, by go_num, rfl, congrArg (Value.int .i64) (by omega), by go_num, rfl, hown, .inl ⟨by omega, by omega, Hm.out⟩, by omega, by omega, by omega, by omega, by omega, by omega, by omega, hbw⟩
              case measure => simp [intOf]; omega
        · rw [if_neg hdg] at hm
          have hns : (B < 48) ∨ (57 < B) := by omega
          have hsz1 : (s.extract pos (pos + 1)).size = 1 := by rw [ByteArray.size_extract]; omega
          by_cases hbad : (nn < 1 ∨ 24 < nn ∨ 24 < ss) ∨ (B ≠ 44 ∧ B ≠ 45)
          · rw [if_pos hbad] at hm
            have Hm := Lib.hid hm
            clear hm hdg hd0 hd1 hd2
            have hsp : nn < 1 ∨ (1 ≤ nn ∧ 24 < nn) ∨ (1 ≤ nn ∧ nn ≤ 24 ∧ 24 < ss) ∨ (1 ≤ nn ∧ nn ≤ 24 ∧ ss ≤ 24 ∧ B ≠ 44 ∧ B ≠ 45) := by omega
            clear hbad
            rcases hsp with h1 | ⟨h1, h2⟩ | ⟨h1, h2, h3⟩ | ⟨h1, h2, h3, h4, h5⟩
            · rcases hns with hns | hns
              all_goals (
                go_wp2
                go_ret3
                exact told_no hbw Hm.out.symm)
            · rcases hns with hns | hns
              all_goals (
                go_wp2
                go_ret3
                exact told_no hbw Hm.out.symm)
            · rcases hns with hns | hns
              all_goals (
                go_wp2
                go_ret3
                exact told_no hbw Hm.out.symm)
            · have e4 : ((B : Int) != 44) = true := by simp; omega
              have e5 : ((B : Int) != 45) = true := by simp; omega
              clear h4 h5
              rcases hns with hns | hns
              all_goals (
                go_wp2
                go_ret3
                exact told_no hbw Hm.out.symm)
          · rw [if_neg hbad] at hm
            have Hm := Lib.hid hm
            have hsp : 1 ≤ nn ∧ nn ≤ 24 ∧ ss ≤ 24 ∧ (B = 44 ∨ B = 45) := by omega
            obtain ⟨h1, h2, h3, h4⟩ := hsp
            clear hm hdg hd0 hd1 hd2 hbad hns
            rcases h4 with rfl | rfl
            all_goals (
              go_wp2_with (at_builtin; refine wpList_append_own _ rfl _ _ 24 rfl w.heap.size 3 i0 (.int .i64 0) 1 8 Tryz.underlying24 hi hz0 hz1 hz2 rfl (by decide) _ _ _ rfl (hown.alloc _) ⟨wr.heap.size, 0, none⟩ 1 1 [eI nn] rfl rfl (cell_one_new _ _ _) (by simp [eI, Value.oneCell']) (by simp only [maxLen]; omega) (by omega) (by simp; omega) ?_; intro v' w1 hown1 hg1 hn1)
              go_roundw
              case rel => exact ⟨f, pos + 1, 0, 0, ss + nn, l ++ [nn], mk ++ s.extract pos (pos + 1), by go_num, rfl, rfl, rfl, congrArg (Value.int .i64) (by omega), own_snoc hown1, .inl ⟨by omega, by omega, Hm.out⟩, by omega, by omega, by omega, by omega, by omega, by simp; omega, by rw [ByteArray.size_append]; omega, (hbw.alloc hsz _).grown hg1 (by simp; omega) (fun k e => (hown.lt k e).1)⟩
              case measure => simp [intOf]; omega)
      · rw [mach_end _ _ _ _ _ _ _ _ hp] at hm
        unfold machEnd at hm
        obtain rfl : pos = s.size := by omega
        by_cases hbad : nn < 1 ∨ 24 < nn ∨ 24 < ss
        · rw [if_pos hbad] at hm
          have Hm := Lib.hid hm
          clear hm hd0 hd1 hd2
          have hsp : nn < 1 ∨ (1 ≤ nn ∧ 24 < nn) ∨ (1 ≤ nn ∧ nn ≤ 24 ∧ 24 < ss) := by omega
          clear hbad
          rcases hsp with h1 | ⟨h1, h2⟩ | ⟨h1, h2, h3⟩
          all_goals (
            go_wp2
            go_ret3
            exact told_no hbw Hm.out.symm)
        · rw [if_neg hbad] at hm
          have Hm := Lib.hid hm
          have hsp : 1 ≤ nn ∧ nn ≤ 24 ∧ ss ≤ 24 := by omega
          obtain ⟨h1, h2, h3⟩ := hsp
          clear hm hd0 hd1 hd2 hbad
          go_wp2_with (at_builtin; refine wpList_append_own _ rfl _ _ 24 rfl w.heap.size 3 i0 (.int .i64 0) 1 8 Tryz.underlying24 hi hz0 hz1 hz2 rfl (by decide) _ _ _ rfl (hown.alloc _) ⟨wr.heap.size, 0, none⟩ 1 1 [eI nn] rfl rfl (cell_one_new _ _ _) (by simp [eI, Value.oneCell']) (by simp only [maxLen]; omega) (by omega) (by simp; omega) ?_; intro v' w1 hown1 hg1 hn1)
          go_roundw
          case rel => exact ⟨0, s.size + 1, 0, 0, ss + nn, l ++ [nn], mk, by go_num, rfl, rfl, rfl, congrArg (Value.int .i64) (by omega), own_snoc hown1, .inr ⟨rfl, Hm.out⟩, by omega, by omega, by omega, by omega, by omega, by simp; omega, by omega, (hbw.alloc hsz _).grown hg1 (by simp; omega) (fun k e => (hown.lt k e).1)⟩
          case measure => simp [intOf] <;> omega
    · by_cases h24 : ss ≤ 24
      · rw [if_pos h24] at hm
        have Hm := Lib.hid hm
        clear hm
        go_wp2
        go_ret3
        show SizesTold w wr R (.returned (.tuple #[u5, .string mk, .bool (decide ((ss : Int) ≤ 24))]))
        rw [show decide ((ss : Int) ≤ 24) = true from by simp; omega]
        exact told_yes hbw Hm.out.symm hown
      · rw [if_neg h24] at hm
        have Hm := Lib.hid hm
        clear hm
        go_wp2
        go_ret3
        show SizesTold w wr R (.returned (.tuple #[u5, .string mk, .bool (decide ((ss : Int) ≤ 24))]))
        rw [show decide ((ss : Int) ≤ 24) = false from by simp; omega]
        exact told_no hbw Hm.out.symm
end Go.Proofs.YtbjgfjmknnbahaaGreatDoor

/- Contract: clue.sum. -/
set_option linter.unusedVariables false
set_option linter.unusedSimpArgs false
namespace Go.Proofs.YtbjgfjmknnbahaaGreatDoor
open Go.RowKit

set_option maxHeartbeats 4000000 in
set_option maxRecDepth 100000 in
theorem Sum_any (A : Option Addr) (n c : Nat) (l : List Int) (w : World) (ha : Rd w 1 A n (l.map eZ)) (hn : n ≤ 4294967296) :
    Calls Tryz.prog 42 #[.slice A n c] w fun e w' => (∃ v, e = .returned (.tuple #[.int .i64 v, .bool (okZ l)]) ∧ (okZ l = true → v = sumZ l)) ∧ w = w' := by
  have hl : l.length = n := by have := ha.1; simpa using this
  obtain ⟨K, hK⟩ : ∃ K, okZ l = K := ⟨_, rfl⟩
  obtain ⟨S, hS⟩ : ∃ S, sumZ l = S := ⟨_, rfl⟩
  rw [hK, hS]
  have HK := Lib.hid hK
  have HS := Lib.hid hS
  clear hK hS
  go_enter Tryz.func42, Tryz.ntmps42
  go_wp2
  go_loopw [4, 9] (fun s i wr => ∃ (k : Nat) (a : Int), i = .int .i64 k ∧ s = .int .i64 a ∧ k ≤ n ∧ 0 ≤ a ∧ a ≤ 24 ∧ okFrom (l.drop k) a = K ∧ sumFrom (l.drop k) a = S ∧ wr = w) (fun _ i _ => n - (intOf i).toNat)
  case atStart => exact ⟨0, 0, rfl, rfl, Nat.zero_le _, by omega, by omega, HK.out, HS.out, rfl⟩
  case round =>
    obtain ⟨k, a, rfl, rfl, hk, ha0, ha1, hok, hsm, rfl⟩ := hrel
    by_cases hlt : k < n
    · obtain ⟨b, o, x, rfl, hx, hc⟩ := ha.at1 hlt
      rw [drop_cons hx] at hok hsm
      simp only [okFrom, sumFrom] at hok hsm
      unfold eZ at hc
      by_cases h1 : x < 1 ∨ 24 < x
      · rw [if_pos h1] at hok
        have Hok := Lib.hid hok
        clear hok hsm hx
        rcases h1 with h1 | h1
        all_goals (
          go_wp2
          go_ret2
          exact ⟨⟨0, by rw [← Hok.out]; rfl, fun h => by rw [← Hok.out] at h; cases h⟩, rfl⟩)
      · rw [if_neg h1] at hok
        have hx1 : 1 ≤ x := by omega
        have hx2 : x ≤ 24 := by omega
        clear h1
        by_cases h2 : 24 < a + x
        · rw [if_pos h2] at hok
          have Hok := Lib.hid hok
          clear hok hsm hx
          go_wp2
          go_ret2
          exact ⟨⟨0, by rw [← Hok.out]; rfl, fun h => by rw [← Hok.out] at h; cases h⟩, rfl⟩
        · rw [if_neg h2] at hok
          have Hok := Lib.hid hok
          have Hsm := Lib.hid hsm
          have h3 : a + x ≤ 24 := by omega
          clear hok hsm hx h2
          go_wp2
          go_roundw
          case rel => exact ⟨k + 1, a + x, by go_num, rfl, by omega, by omega, by omega, Hok.out, Hsm.out, trivial⟩
          case measure => simp [intOf] <;> omega
    · rw [List.drop_of_length_le (by omega)] at hok hsm
      simp only [okFrom, sumFrom] at hok hsm
      have Hok := Lib.hid hok
      have Hsm := Lib.hid hsm
      clear hok hsm
      go_wp2
      go_ret2
      exact ⟨⟨a, by rw [← Hok.out]; rfl, fun _ => Hsm.out⟩, rfl⟩
end Go.Proofs.YtbjgfjmknnbahaaGreatDoor
