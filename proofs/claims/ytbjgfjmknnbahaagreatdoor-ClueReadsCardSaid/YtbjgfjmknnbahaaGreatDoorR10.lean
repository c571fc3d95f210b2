/- Texts joined: ParseRight, IndexOdd, RefCheck, RefLetters, TrimLay, Check, Awake. -/
import Derived.Test.YtbjgfjmknnbahaaGreatDoorR9
import Derived.Test.YtbjgfjmknnbahaaGreatDoorR7
import Derived.Test.YtbjgfjmknnbahaaGreatDoorR4
import Derived.Test.YtbjgfjmknnbahaaGreatDoorR2
import Derived.Shelf.Strings.SlTrimAscii
import Derived.Test.YtbjgfjmknnbahaaGreatDoorProg
/- Plain Lean: what is read of a text is a right clue. -/
set_option linter.unusedVariables false
set_option linter.unusedSimpArgs false
namespace Go.Proofs.YtbjgfjmknnbahaaGreatDoor
open Go.RowKit

/-- A clue that is read: its words, and its sizes from between the brackets. -/
theorem parse_some {s : ByteArray} {ws : List ByteArray} {l : List Nat} {mk : ByteArray} {a : Nat} (h : parseF s = (ws, l, mk, a, 0)) :
    a = 0 ∧ ∃ x y, sizesF x = some (l, mk) ∧ ws = keepW (wordsL y) ∧ 1 ≤ ws.length ∧ ws.length ≤ 12 ∧ y.size ≤ s.size := by
  unfold parseF parseL at h
  split at h
  · simp only [parseBad, Prod.mk.injEq] at h; omega
  · split at h
    · simp only [parseBad, Prod.mk.injEq] at h; omega
    · split at h
      · simp only [parseBad, Prod.mk.injEq] at h; omega
      · unfold parseTail at h
        split at h
        · simp only [parseBad, Prod.mk.injEq] at h; omega
        · rename_i l' mk' hz
          unfold parseEnd at h
          split at h
          · simp only [parseBad, Prod.mk.injEq] at h; omega
          · simp only [Prod.mk.injEq] at h
            obtain ⟨h1, h2, h3, h4, _⟩ := h
            subst h1 h2 h3
            exact ⟨h4.symm, _, _, hz, rfl, by omega, by omega, by rw [ByteArray.size_extract]; omega⟩
theorem mach_right (s : ByteArray) : ∀ (f i : Nat) (l : List Nat) (mk : ByteArray) (n d sm : Nat) (L : List Nat) (M : ByteArray), mach s f i l mk n d sm = some (L, M) → (∀ x ∈ l, 1 ≤ x ∧ x ≤ 24) → sm = l.sum → mk.size = l.length → marksOk mk = true →
    (∀ x ∈ L, 1 ≤ x ∧ x ≤ 24) ∧ L.sum ≤ 24 ∧ L ≠ [] ∧ M.size + 1 = L.length ∧ marksOk M = true := by
  have fin : ∀ (l : List Nat) (mk : ByteArray) (n sm : Nat) (L : List Nat) (M : ByteArray), machEnd l mk n sm = some (L, M) → (∀ x ∈ l, 1 ≤ x ∧ x ≤ 24) → sm = l.sum → mk.size = l.length → marksOk mk = true →
      (∀ x ∈ L, 1 ≤ x ∧ x ≤ 24) ∧ L.sum ≤ 24 ∧ L ≠ [] ∧ M.size + 1 = L.length ∧ marksOk M = true := by
    intro l mk n sm L M h hl hs hm hk
    unfold machEnd at h
    split at h
    · cases h
    · split at h
      · injection h with h
        injection h with h1 h2
        subst h1 h2
        refine ⟨fun x hx => ?_, ?_, by simp, by simp [hm], hk⟩
        · rcases List.mem_append.1 hx with hx | hx
          · exact hl x hx
          · simp at hx; omega
        · rw [List.sum_append]; simp; omega
      · cases h
  intro f
  induction f with
  | zero => intro i l mk n d sm L M h; exact fin l mk n sm L M h
  | succ f ih =>
    intro i l mk n d sm L M h hl hs hm hk
    unfold mach at h
    split at h
    · rename_i hi
      split at h
      · split at h
        · cases h
        · exact ih _ _ _ _ _ _ _ _ h hl hs hm hk
      · split at h
        · cases h
        · rename_i hb
          have hz : (s.extract i (i + 1)).size = 1 := by rw [ByteArray.size_extract]; omega
          refine ih _ _ _ _ _ _ _ _ h (fun x hx => ?_) (by rw [List.sum_append]; simp [hs]) (by rw [ByteArray.size_append, hz, List.length_append]; simp [hm]) ?_
          · rcases List.mem_append.1 hx with hx | hx
            · exact hl x hx
            · simp at hx; omega
          · unfold marksOk at hk ⊢
            rw [ByteArray.data_append, Array.toList_append, List.all_append, hk, Lib.extract_data]
            have hx : (s.data.toList.drop i).take (i + 1 - i) = [s.get! i] := by
              rw [List.drop_eq_getElem_cons (by rw [← Lib.size_eq]; exact hi), show i + 1 - i = 1 by omega]
              have := get_bang_list s i hi
              rw [List.getElem?_eq_getElem (by rw [← Lib.size_eq]; exact hi)] at this
              injection this with this
              simp [this]
            rw [hx]
            have hbb : (s.get! i).toNat = 44 ∨ (s.get! i).toNat = 45 := by omega
            simp only [Bool.true_and, List.all_cons, List.all_nil, Bool.and_true, Bool.or_eq_true, beq_iff_eq]
            rcases hbb with h1 | h1
            · left; rw [← UInt8.toNat_inj, h1]; rfl
            · right; rw [← UInt8.toNat_inj, h1]; rfl
    · exact fin l mk n sm L M h hl hs hm hk
theorem sizes_right {s : ByteArray} {l : List Nat} {mk : ByteArray} (h : sizesF s = some (l, mk)) : sizesBad (l.map Int.ofNat) mk = false ∧ l ≠ [] := by
  obtain ⟨h1, h2, h3, h4, h5⟩ := mach_right s _ _ _ _ _ _ _ _ _ h (by simp) rfl rfl rfl
  have hp : 0 < l.sum := by
    cases l with
    | nil => exact absurd rfl h3
    | cons x l => have := h1 x (by simp); rw [List.sum_cons]; omega
  have hok : okN l = true := (okN_iff l).2 ⟨h1, h2, hp⟩
  refine ⟨?_, h3⟩
  unfold sizesBad
  have : okZ (l.map Int.ofNat) = true := hok
  rw [this, h5, show (mk.size + 1 == (l.map Int.ofNat).length) = true by simp [h4]]
  rfl
theorem keep_right (y : ByteArray) (h1 : 1 ≤ (keepW (wordsL y)).length) (h2 : (keepW (wordsL y)).length ≤ 12) : wordsBad (keepW (wordsL y)) = false := by
  unfold wordsBad
  rw [decide_eq_false (by omega), Bool.false_or, List.any_eq_false]
  intro x hx
  obtain ⟨hx1, hx2⟩ := List.mem_filter.1 hx
  unfold oddT
  rw [solid_noBlank (wordsL_solid y x hx1).1, hx2]
  simp
/-- What is read is right. -/
theorem parse_right {s : ByteArray} {ws : List ByteArray} {l : List Nat} {mk : ByteArray} {a : Nat} (h : parseF s = (ws, l, mk, a, 0)) : checkF ws (l.map Int.ofNat) mk = 0 := by
  obtain ⟨_, x, y, h1, h2, h3, h4, _⟩ := parse_some h
  unfold checkF
  subst h2
  rw [keep_right y h3 h4, (sizes_right h1).1]
  rfl
theorem parse_fits {s : ByteArray} {ws : List ByteArray} {l : List Nat} {mk : ByteArray} {a : Nat} (h : parseF s = (ws, l, mk, a, 0)) : s.size ≤ 4294967296 := by
  unfold parseF parseL at h
  split at h
  · simp only [parseBad, Prod.mk.injEq] at h; omega
  · omega
theorem sum_length : ∀ l : List Nat, (∀ x ∈ l, 1 ≤ x) → l.length ≤ l.sum
  | [], _ => by simp
  | x :: l, h => by
    have := sum_length l (fun y hy => h y (List.mem_cons_of_mem _ hy))
    have := h x (by simp)
    rw [List.length_cons, List.sum_cons]
    omega
/-- How great what is told may be. -/
theorem parse_small {s : ByteArray} {ws : List ByteArray} {l : List Nat} {mk : ByteArray} {a x : Nat} (h : parseF s = (ws, l, mk, a, x)) : ws.length ≤ 12 ∧ l.length ≤ 24 ∧ mk.size ≤ 24 ∧ ∀ y ∈ ws, y.size ≤ s.size := by
  by_cases hx : x = 0
  · subst hx
    obtain ⟨_, p, q, h1, h2, h3, h4, h5⟩ := parse_some h
    obtain ⟨k1, k2, k3, k4, k5⟩ := mach_right p _ _ _ _ _ _ _ _ _ h1 (by simp) rfl rfl rfl
    have := sum_length l (fun x hx => (k1 x hx).1)
    refine ⟨h4, by omega, by omega, fun y hy => ?_⟩
    rw [h2] at hy
    have := wordsL_size q y (List.mem_filter.1 hy).1
    omega
  · have hb : ∀ c d, (ws, l, mk, a, x) = parseBad c d → ws.length ≤ 12 ∧ l.length ≤ 24 ∧ mk.size ≤ 24 ∧ ∀ y ∈ ws, y.size ≤ s.size := by
      intro c d e
      simp only [parseBad, Prod.mk.injEq] at e
      obtain ⟨rfl, rfl, rfl, _, _⟩ := e
      simp
    unfold parseF parseL at h
    split at h
    · exact hb _ _ h.symm
    · split at h
      · exact hb _ _ h.symm
      · split at h
        · exact hb _ _ h.symm
        · unfold parseTail at h
          split at h
          · exact hb _ _ h.symm
          · unfold parseEnd at h
            split at h
            · exact hb _ _ h.symm
            · simp only [Prod.mk.injEq] at h
              omega
end Go.Proofs.YtbjgfjmknnbahaaGreatDoor

/- Contracts: slices.IndexFunc, ContainsFunc at words, with clue.Check's predicate. -/
set_option linter.unusedVariables false
set_option linter.unusedSimpArgs false
namespace Go.Proofs.YtbjgfjmknnbahaaGreatDoor
open Go.RowKit

set_option maxHeartbeats 4000000 in
set_option maxRecDepth 100000 in
theorem IndexOdd_any (A : Option Addr) (n c : Nat) (ws : List ByteArray) (w : World) (ha : Rd w 1 A n (ws.map eS)) (hn : n ≤ 4294967296) (hz : ∀ x ∈ ws, x.size ≤ 4294967296) :
    Calls Tryz.prog 66 #[.slice A n c, .func (.func 39) #[] #[]] w fun e w' => e = .returned (.int .i64 (idxF oddW ws 0)) ∧ Below w.heap.size w w' := by
  have hl : ws.length = n := by have := ha.1; simpa using this
  obtain ⟨K, hK⟩ : ∃ K, idxF oddW ws 0 = K := ⟨_, rfl⟩
  rw [hK]
  have HK := Lib.hid hK
  have HZ := Lib.hid hz
  clear hK hz
  go_enter Tryz.func66, Tryz.ntmps66
  go_wp2_with fail
  go_loopw [8] (fun i wr => ∃ (k : Nat), i = .int .i64 k ∧ k ≤ n ∧ idxF oddW (ws.drop k) k = K ∧ Below w.heap.size w wr) (fun i _ => n - (intOf i).toNat)
  case atStart => exact ⟨0, rfl, Nat.zero_le _, HK.out, Below.refl _ _⟩
  case round =>
    obtain ⟨k, rfl, hk, hix, hbw⟩ := hrel
    by_cases hlt : k < n
    · obtain ⟨b, o, x, rfl, hx, hc⟩ := (ha.keep hbw).at1 hlt
      have hxz := HZ.out x (List.mem_of_getElem? hx)
      rw [drop_cons hx] at hix
      simp only [idxF] at hix
      unfold eS at hc
      cases hp : oddW x with
      | true =>
        rw [hp] at hix
        simp only [if_true] at hix
        have Hix := Lib.hid hix
        have hp2 : oddW x = true := hp
        clear hix hx hp
        go_wp2_with (go_at_call 39; refine (Odd_any x _ hxz).mono ?_; rintro e w2 ⟨rfl, hb2⟩)
        go_ret
        exact ⟨by rw [← Hix.out]; rfl, below_then hbw hbw.size hb2⟩
      | false =>
        rw [hp] at hix
        simp only [Bool.false_eq_true, if_false] at hix
        have Hix := Lib.hid hix
        have hp2 : oddW x = false := hp
        clear hix hx hp
        go_wp2_with (go_at_call 39; refine (Odd_any x _ hxz).mono ?_; rintro e w2 ⟨rfl, hb2⟩)
        go_roundw
        case rel => exact ⟨k + 1, by go_num, by omega, Hix.out, below_then hbw hbw.size hb2⟩
        case measure => simp [intOf] <;> omega
    · rw [List.drop_of_length_le (by omega)] at hix
      simp only [idxF] at hix
      have Hix := Lib.hid hix
      clear hix
      go_wp2
      go_ret
      exact ⟨by rw [← Hix.out]; rfl, hbw⟩
theorem idxF_any (p : ByteArray → Bool) : ∀ (l : List ByteArray) (k : Nat), decide (0 ≤ idxF p l k) = l.any p
  | [], k => by simp [idxF]
  | x :: l, k => by
    unfold idxF
    rw [List.any_cons]
    cases h : p x with
    | true => simp
    | false =>
      simp only [Bool.false_eq_true, if_false, Bool.false_or]
      exact idxF_any p l (k + 1)
set_option maxHeartbeats 1000000 in
set_option maxRecDepth 100000 in
theorem ContainsOdd_any (A : Option Addr) (n c : Nat) (ws : List ByteArray) (w : World) (ha : Rd w 1 A n (ws.map eS)) (hn : n ≤ 4294967296) (hz : ∀ x ∈ ws, x.size ≤ 4294967296) :
    Calls Tryz.prog 41 #[.slice A n c, .func (.func 39) #[] #[]] w fun e w' => e = .returned (.bool (ws.any oddW)) ∧ Below w.heap.size w w' := by
  have HI := Lib.hid (IndexOdd_any A n c ws w ha hn hz)
  have hx := idxF_any oddW ws 0
  generalize idxF oddW ws 0 = K at hx HI
  cases hb : ws.any oddW with
  | true =>
    rw [hb] at hx
    have hk : 0 ≤ K := of_decide_eq_true hx
    clear hx hb
    go_enter Tryz.func41, Tryz.ntmps41
    go_wp2_with (go_at_call 66; refine (HI.out).mono ?_; rintro e w2 ⟨rfl, hb2⟩)
    go_ret
    exact ⟨by simp [hk], hb2⟩
  | false =>
    rw [hb] at hx
    have hk : ¬ 0 ≤ K := of_decide_eq_false hx
    clear hx hb
    go_enter Tryz.func41, Tryz.ntmps41
    go_wp2_with (go_at_call 66; refine (HI.out).mono ?_; rintro e w2 ⟨rfl, hb2⟩)
    go_ret
    exact ⟨by simp; omega, hb2⟩
end Go.Proofs.YtbjgfjmknnbahaaGreatDoor

/- Contract: rebusref16.Check. -/
set_option linter.unusedVariables false
set_option linter.unusedSimpArgs false
namespace Go.Proofs.YtbjgfjmknnbahaaGreatDoor
open Go.RowKit

theorem any_odd {ws : List ByteArray} {x : ByteArray} (h : x ∈ ws) (ho : oddT x = true) : wordsBad ws = true := by
  unfold wordsBad
  rw [List.any_eq_true.2 ⟨x, h, ho⟩]
  simp
theorem none_odd {ws : List ByteArray} (h1 : 1 ≤ ws.length) (h2 : ws.length ≤ 12) (h : ∀ (j : Nat) (x : ByteArray), ws[j]? = some x → oddT x = false) : wordsBad ws = false := by
  unfold wordsBad
  have : ws.any oddT = false := by
    rw [List.any_eq_false]
    intro x hx
    obtain ⟨j, hj, rfl⟩ := List.getElem_of_mem hx
    simp [h j _ (List.getElem?_eq_getElem hj)]
  rw [this, decide_eq_false (show ¬ (ws.length < 1 ∨ 12 < ws.length) by omega)]
  rfl

set_option maxHeartbeats 4000000 in
set_option maxRecDepth 100000 in
theorem RefCheck_any (v : Value) (ws : List ByteArray) (zs : List Int) (mk : ByteArray) (w : World) (hc : IsClue w v ws zs mk) (h1 : ws.length ≤ 4294967296) (h2 : zs.length ≤ 4294967296) (h3 : mk.size ≤ 4294967296) (h4 : ∀ x ∈ ws, x.size ≤ 4294967296) :
    Calls Tryz.prog 45 #[v] w fun e w' => e = .returned (.int .i64 (checkF ws zs mk : Nat)) ∧ Below w.heap.size w w' := by
  obtain ⟨A, n, c, B, m, d, rfl, ha, hb, k1, k2, k3, k4, hn, hm⟩ := hc.ex
  obtain ⟨R, hR⟩ : ∃ R, checkF ws zs mk = R := ⟨_, rfl⟩
  rw [hR]
  have HR := Lib.hid hR
  have H4 := Lib.hid h4
  clear hR h4 hc
  by_cases hbad : n < 1 ∨ 12 < n
  · have hR2 : R = 160 := by
      rw [← HR.out]
      unfold checkF wordsBad
      have : decide (ws.length < 1 ∨ 12 < ws.length) = true := decide_eq_true (by omega)
      rw [this]
      simp
    clear HR
    subst hR2
    rcases hbad with hb1 | hb2
    all_goals (
      go_enter Tryz.func45, Tryz.ntmps45
      go_wp2
      go_ret
      exact ⟨rfl, (Below.refl _ _).alloc (Nat.le_refl _) _⟩)
  have hn1 : 1 ≤ n := by omega
  have hn2 : n ≤ 12 := by omega
  clear hbad
  have hbl : ∀ o, Below w.heap.size w (w.alloc o) := fun o => (Below.refl _ _).alloc (Nat.le_refl _) _
  go_enter Tryz.func45, Tryz.ntmps45
  go_wp2
  have hg0 := heap_alloc_new w (.cells #[.slice A n c, .slice B m d, .string mk] 26)
  have hb0 := hbl (.cells #[.slice A n c, .slice B m d, .string mk] 26)
  go_loopw [3] (fun i wr => ∃ (k : Nat), i = .int .i64 k ∧ k ≤ n ∧ (∀ j x, j < k → ws[j]? = some x → oddT x = false) ∧ wr.heap[w.heap.size]? = some (.cells #[.slice A n c, .slice B m d, .string mk] 26 (0, 0)) ∧ Below w.heap.size w wr) (fun i _ => n - (intOf i).toNat)
  case atStart => exact ⟨0, rfl, Nat.zero_le _, fun j x h => absurd h (Nat.not_lt_zero _), hg0, hb0⟩
  case round =>
    obtain ⟨k, rfl, hk, hno, hg, hbw⟩ := hrel
    have c0 := cell_of_row wr _ 0 _ _ _ hg
    have c1 := cell_of_row wr _ 1 _ _ _ hg
    have c2 := cell_of_row wr _ 2 _ _ _ hg
    by_cases hlt : k < n
    · obtain ⟨b, o, x, rfl, hx, hcx⟩ := (ha.keep hbw).at1 hlt
      have hxz := H4.out x (List.mem_of_getElem? hx)
      unfold eS at hcx
      have HX := Lib.hid hx
      have HN := Lib.hid hno
      clear hx hno
      have HB := Lib.hid (fun W => RefBlanks_any x W hxz)
      cases hbk : anyBlank (runes x) with
      | true =>
        rw [hbk] at HB
        have hR2 : R = 160 := by
          rw [← HR.out]; unfold checkF
          rw [any_odd (List.mem_of_getElem? HX.out) (by simp [oddT, hbk])]; rfl
        clear HR hbk
        subst hR2
        go_wp2_with (go_at_call 79; refine (HB.out _).mono ?_; rintro e w2 ⟨rfl, hb2⟩)
        go_ret
        exact ⟨rfl, below_then hbw hbw.size hb2⟩
      | false =>
        rw [hbk] at HB
        cases hne : neW x with
        | false =>
          have hR2 : R = 160 := by
            rw [← HR.out]; unfold checkF
            rw [any_odd (List.mem_of_getElem? HX.out) (by simp [oddT, hne])]; rfl
          have hfo := Lib.hid (neW_false hne)
          clear HR hbk hne
          subst hR2
          go_wp2_with (first
            | (go_at_call 79; refine (HB.out _).mono ?_; rintro e w2 ⟨rfl, hb2⟩; have c02 := (hb2.cell (p := ⟨w.heap.size, 0, none⟩) (heap_lt hg)).trans c0; have hcx2 := cell_keep hb2 hcx)
            | (go_at_call 37; refine (RefFold_any x true _ hxz).mono ?_; rintro e w3 ⟨rfl, hb3⟩; rw [hfo.out]))
          go_ret
          exact ⟨rfl, below_then (below_then hbw hbw.size hb2) (by have := hbw.size; have := hb2.size; omega) hb3⟩
        | true =>
          have hfo := toList_false (neW_true hne)
          have hodd : oddT x = false := by simp [oddT, hbk, hne]
          have HO := Lib.hid hodd
          clear hbk hne hodd
          go_wp2_with (first
            | (go_at_call 79; refine (HB.out _).mono ?_; rintro e w2 ⟨rfl, hb2⟩; have c02 := (hb2.cell (p := ⟨w.heap.size, 0, none⟩) (heap_lt hg)).trans c0; have hcx2 := cell_keep hb2 hcx)
            | (go_at_call 37; refine (RefFold_any x true _ hxz).mono ?_; rintro e w3 ⟨rfl, hb3⟩))
          have hg2 := (hb2.block _ (heap_lt hg)).trans hg
          have hg3 := (hb3.block _ (heap_lt hg2)).trans hg2
          have hbw3 := below_then (below_then hbw hbw.size hb2) (by have := hbw.size; have := hb2.size; omega) hb3
          go_roundw
          case rel =>
            refine ⟨k + 1, by go_num, by omega, fun j y hj hy => ?_, hg3, hbw3⟩
            rcases Nat.lt_or_ge j k with h | h
            · exact HN.out j y h hy
            · obtain rfl : j = k := by omega
              rw [HX.out] at hy
              injection hy with hy
              subst hy
              exact HO.out
          case measure => simp [intOf] <;> omega
    · have hwb : wordsBad ws = false := none_odd (by omega) (by omega) (fun j x hx => hno j x (by have := (List.getElem?_eq_some_iff.1 hx).1; omega) hx)
      have hRs : R = if sizesBad zs mk then 161 else 0 := by
        rw [← HR.out]; unfold checkF
        rw [hwb]; rfl
      clear HR hno hwb
      by_cases hz0 : m < 1
      · have hR2 : R = 161 := by
          rw [hRs, sizesBad_len zs mk (.inl (List.eq_nil_of_length_eq_zero (by omega)))]; rfl
        clear hRs
        subst hR2
        go_wp2
        go_ret
        exact ⟨rfl, hbw⟩
      by_cases hz1 : mk.size + 1 = m
      · have hne : zs ≠ [] := fun e => by rw [e] at hm; simp at hm; omega
        have hZ := refZ_sizes zs mk hne (by omega)
        obtain ⟨Z, hZZ⟩ : ∃ Z, refZ mk zs 0 0 = Z := ⟨_, rfl⟩
        rw [hZZ] at hZ
        have hR2 : R = if Z then 0 else 161 := by
          rw [hRs, hZ]; cases sizesBad zs mk <;> rfl
        have HZ := Lib.hid hZZ
        have HR2 := Lib.hid hR2
        have hz2 : ((mk.size : Int) != (m : Int) - 1) = false := by simp; omega
        have hz3 : 1 ≤ m := by omega
        clear hRs hZ hZZ hR2 hne hz0
        go_wp2
        go_loopw [4, 5] (fun s i wr2 => ∃ (k : Nat) (a : Int), i = .int .i64 k ∧ s = .int .i64 a ∧ k ≤ m ∧ 0 ≤ a ∧ a ≤ 48 ∧ refZ mk (zs.drop k) k a = Z ∧ wr2 = wr) (fun _ i _ => m - (intOf i).toNat)
        case atStart => exact ⟨0, 0, rfl, rfl, Nat.zero_le _, by omega, by omega, HZ.out, rfl⟩
        case round =>
          obtain ⟨k2, a, rfl, rfl, hk2, ha0, ha1, hrz, rfl⟩ := hrel
          by_cases hlt2 : k2 < m
          · obtain ⟨b, o, z, rfl, hz, hcz⟩ := (hb.keep hbw).at1 hlt2
            rw [drop_cons hz] at hrz
            unfold refZ at hrz
            unfold eZ at hcz
            by_cases q1 : z < 1 ∨ 24 < z ∨ 24 < a
            · rw [if_pos q1] at hrz
              subst hrz
              have hR3 : R = 161 := HR2.out
              clear HR2 HZ
              subst hR3
              have q2 : z < 1 ∨ (1 ≤ z ∧ 24 < z) ∨ (1 ≤ z ∧ z ≤ 24 ∧ 24 < a) := by omega
              clear q1
              rcases q2 with q | ⟨q, q'⟩ | ⟨q, q', q''⟩
              all_goals (
                go_wp2
                go_ret
                exact ⟨rfl, hbw⟩)
            · rw [if_neg q1] at hrz
              have p1 : 1 ≤ z := by omega
              have p2 : z ≤ 24 := by omega
              have p3 : a ≤ 24 := by omega
              clear q1
              rcases Nat.eq_zero_or_pos k2 with h0 | h0
              · subst h0
                rw [if_neg (by omega)] at hrz
                have Hrz := Lib.hid hrz
                clear hrz hz
                simp only [Nat.add_zero] at hcz
                go_wp2
                go_roundw
                case rel => exact ⟨1, a + z, by go_num, rfl, by omega, by omega, by omega, Hrz.out, trivial⟩
                case measure => simp [intOf] <;> omega
              · have hbb := get_bang mk (k2 - 1)
                have hb9 := (mk.get! (k2 - 1)).toNat_lt
                obtain ⟨k3, rfl⟩ : ∃ k3, k2 = k3 + 1 := ⟨k2 - 1, by omega⟩
                simp only [Nat.add_sub_cancel] at hrz hbb hb9
                generalize (mk.get! k3).toNat = Bm at hrz hbb hb9
                by_cases q3 : Bm = 44 ∨ Bm = 45
                · rw [if_neg (by omega)] at hrz
                  have Hrz := Lib.hid hrz
                  clear hrz hz
                  rcases q3 with rfl | rfl
                  all_goals (
                    go_wp2
                    go_roundw
                    case rel => exact ⟨k3 + 2, a + z, by go_num, rfl, by omega, by omega, by omega, Hrz.out, trivial⟩
                    case measure => simp [intOf] <;> omega)
                · rw [if_pos (by omega)] at hrz
                  subst hrz
                  have hR3 : R = 161 := HR2.out
                  clear HR2 HZ
                  subst hR3
                  have e4 : ((Bm : Int) != 44) = true := by simp; omega
                  have e5 : ((Bm : Int) != 45) = true := by simp; omega
                  clear q3
                  go_wp2
                  go_ret
                  exact ⟨rfl, hbw⟩
          · rw [List.drop_of_length_le (by omega)] at hrz
            simp only [refZ] at hrz
            by_cases q : a ≤ 24
            · have hR3 : R = 0 := by rw [HR2.out, ← hrz, decide_eq_true q]; rfl
              clear HR2 HZ hrz
              subst hR3
              go_wp2
              go_ret
              exact ⟨rfl, hbw⟩
            · have hR3 : R = 161 := by rw [HR2.out, ← hrz, decide_eq_false q]; rfl
              clear HR2 HZ hrz
              subst hR3
              go_wp2
              go_ret
              exact ⟨rfl, hbw⟩
      · have hR2 : R = 161 := by
          rw [hRs, sizesBad_len zs mk (.inr (by omega))]; rfl
        have hz2 : ((mk.size : Int) != (m : Int) - 1) = true := by simp; omega
        clear hRs
        subst hR2
        go_wp2
        go_ret
        exact ⟨rfl, hbw⟩
end Go.Proofs.YtbjgfjmknnbahaaGreatDoor

/- Contract: rebusref16.Letters. -/
set_option linter.unusedVariables false
set_option linter.unusedSimpArgs false
namespace Go.Proofs.YtbjgfjmknnbahaaGreatDoor
open Go.RowKit

def lettersF (ws : List ByteArray) (zs : List Int) (mk : ByteArray) : Int := if checkF ws zs mk = 0 then sumZ zs else 0
theorem check_ok {ws : List ByteArray} {zs : List Int} {mk : ByteArray} (h : checkF ws zs mk = 0) : okZ zs = true ∧ mk.size + 1 = zs.length ∧ marksOk mk = true ∧ wordsBad ws = false := by
  unfold checkF at h
  split at h
  · cases h
  · rename_i hw
    split at h
    · cases h
    · rename_i hz
      simp only [sizesBad, Bool.not_eq_true, Bool.or_eq_false_iff, Bool.not_eq_false', beq_iff_eq] at hz hw
      exact ⟨hz.1.1, hz.1.2, hz.2, hw⟩

set_option maxHeartbeats 2000000 in
set_option maxRecDepth 100000 in
theorem RefLetters_any (v : Value) (ws : List ByteArray) (zs : List Int) (mk : ByteArray) (w : World) (hc : IsClue w v ws zs mk) (h1 : ws.length ≤ 4294967296) (h2 : zs.length ≤ 4294967296) (h3 : mk.size ≤ 4294967296) (h4 : ∀ x ∈ ws, x.size ≤ 4294967296) :
    Calls Tryz.prog 24 #[v] w fun e w' => e = .returned (.int .i64 (lettersF ws zs mk)) ∧ Below w.heap.size w w' := by
  have HC := Lib.hid (fun W (h : IsClue W v ws zs mk) => RefCheck_any v ws zs mk W h h1 h2 h3 h4)
  have hcl := hc
  obtain ⟨A, n, c, B, m, d, rfl, ha, hb, k1, k2, k3, k4, hn, hm⟩ := hc.ex
  have hg0 := heap_alloc_new w (.cells #[.slice A n c, .slice B m d, .string mk] 26)
  have hb0 : Below w.heap.size w (w.alloc (.cells #[.slice A n c, .slice B m d, .string mk] 26)) := (Below.refl _ _).alloc (Nat.le_refl _) _
  have hcl2 := hcl.keep hb0
  have c1 := cell_of_row _ _ 1 _ _ _ hg0
  clear h4 hc
  by_cases hz : checkF ws zs mk = 0
  · obtain ⟨hok, _, _, _⟩ := check_ok hz
    have hL : lettersF ws zs mk = sumZ zs := by unfold lettersF; rw [if_pos hz]
    rw [hL, ]
    rw [hz] at HC
    obtain ⟨S, hS⟩ : ∃ S, sumZ zs = S := ⟨_, rfl⟩
    rw [hS]
    have HS := Lib.hid hS
    have HK := Lib.hid hok
    clear hz hL hS hok
    go_enter Tryz.func24, Tryz.ntmps24
    go_wp2_with (first
      | (refine wpList_load_row rfl 26 _ rfl w.heap.size rfl 26 _ (0, 0) _ hg0 Tryz.underlying26 rfl rfl ?_)
      | (go_at_call 45; refine (HC.out _ hcl2).mono ?_; rintro e w2 ⟨rfl, hb2⟩))
    have hg2 := (hb2.block _ (heap_lt hg0)).trans hg0
    have c12 := cell_of_row w2 _ 1 _ _ _ hg2
    have hbw := below_then hb0 hb0.size hb2
    have hb2r := (hb.keep hb0).keep hb2
    go_loopw [3, 4] (fun s i wr => ∃ (k : Nat) (a : Int), i = .int .i64 k ∧ s = .int .i64 a ∧ k ≤ m ∧ 0 ≤ a ∧ a ≤ 24 ∧ okFrom (zs.drop k) a = true ∧ sumFrom (zs.drop k) a = S ∧ wr = w2) (fun _ i _ => m - (intOf i).toNat)
    case atStart => exact ⟨0, 0, rfl, rfl, Nat.zero_le _, by omega, by omega, HK.out, HS.out, rfl⟩
    case round =>
      obtain ⟨k, a, rfl, rfl, hk, ha0, ha1, hok, hsm, rfl⟩ := hrel
      by_cases hlt : k < m
      · obtain ⟨b, o, x, rfl, hx, hcx⟩ := hb2r.at1 hlt
        rw [drop_cons hx] at hok hsm
        simp only [okFrom, sumFrom] at hok hsm
        unfold eZ at hcx
        by_cases q1 : x < 1 ∨ 24 < x
        · rw [if_pos q1] at hok; cases hok
        rw [if_neg q1] at hok
        by_cases q2 : 24 < a + x
        · rw [if_pos q2] at hok; cases hok
        rw [if_neg q2] at hok
        have p1 : 1 ≤ x := by omega
        have p2 : a + x ≤ 24 := by omega
        have Hok := Lib.hid hok
        have Hsm := Lib.hid hsm
        clear hok hsm hx q1 q2
        go_wp2
        go_roundw
        case rel => exact ⟨k + 1, a + x, by go_num, rfl, by omega, by omega, by omega, Hok.out, Hsm.out, trivial⟩
        case measure => simp [intOf] <;> omega
      · rw [List.drop_of_length_le (by omega)] at hsm
        simp only [sumFrom] at hsm
        have Hsm := Lib.hid hsm
        clear hsm hok
        go_wp2
        go_ret
        exact ⟨by rw [← Hsm.out]; rfl, hbw⟩
  · have hL : lettersF ws zs mk = 0 := by unfold lettersF; rw [if_neg hz]
    rw [hL]
    generalize checkF ws zs mk = q at hz HC
    have hq : ((q : Int) != 0) = true := by simp; omega
    clear hL hz
    go_enter Tryz.func24, Tryz.ntmps24
    go_wp2_with (first
      | (refine wpList_load_row rfl 26 _ rfl w.heap.size rfl 26 _ (0, 0) _ hg0 Tryz.underlying26 rfl rfl ?_)
      | (go_at_call 45; refine (HC.out _ hcl2).mono ?_; rintro e w2 ⟨rfl, hb2⟩))
    go_ret
    exact ⟨rfl, below_then hb0 hb0.size hb2⟩
end Go.Proofs.YtbjgfjmknnbahaaGreatDoor

/- The lay of strings.Trim over the program. -/
set_option linter.unusedVariables false
namespace Go.Proofs
open Go.Shelf
def Tryz.lays160_ren : Go.Shelf.Ren := ⟨fun | 160 => 43 | 232 => 73 | 231 => 72 | 227 => 74 | 234 => 76 | 233 => 75 | 236 => 78 | 235 => 77 | 228 => 92 | 271 => 88 | 151 => 98 | 197 => 62 | 120 => 103 | 152 => 90 | 260 => 89 | 137 => 104 | 119 => 105 | 224 => 106 | 225 => 107 | 217 => 118 | 266 => 127 | n => n, fun | 9 => 9 | 4 => 4 | 3 => 3 | 5 => 5 | 117 => 100 | 116 => 99 | 0 => 0 | 124 => 103 | 21 => 21 | 105 => 91 | 46 => 126 | 119 => 125 | 139 => 129 | 138 => 128 | n => n, fun | 3 => 1 | 4 => 2 | n => n⟩
theorem Tryz.lays160 : Go.Proofs.Lays.n160 Tryz.prog Tryz.lays160_ren := {
  mixed := by kernel_rfl
  f119 := Tryz.func105.trans (congrArg some (by kernel_rfl))
  f120 := Tryz.func103.trans (congrArg some (by kernel_rfl))
  f137 := Tryz.func104.trans (congrArg some (by kernel_rfl))
  f151 := Tryz.func98.trans (congrArg some (by kernel_rfl))
  f152 := Tryz.func90.trans (congrArg some (by kernel_rfl))
  f160 := Tryz.func43.trans (congrArg some (by kernel_rfl))
  f197 := Tryz.func62.trans (congrArg some (by kernel_rfl))
  f217 := Tryz.func118.trans (congrArg some (by kernel_rfl))
  f224 := Tryz.func106.trans (congrArg some (by kernel_rfl))
  f225 := Tryz.func107.trans (congrArg some (by kernel_rfl))
  f227 := Tryz.func74.trans (congrArg some (by kernel_rfl))
  f228 := Tryz.func92.trans (congrArg some (by kernel_rfl))
  f231 := Tryz.func72.trans (congrArg some (by kernel_rfl))
  f232 := Tryz.func73.trans (congrArg some (by kernel_rfl))
  f233 := Tryz.func75.trans (congrArg some (by kernel_rfl))
  f234 := Tryz.func76.trans (congrArg some (by kernel_rfl))
  f235 := Tryz.func77.trans (congrArg some (by kernel_rfl))
  f236 := Tryz.func78.trans (congrArg some (by kernel_rfl))
  f260 := Tryz.func89.trans (congrArg some (by kernel_rfl))
  f266 := Tryz.func127.trans (congrArg some (by kernel_rfl))
  f271 := Tryz.func88.trans (congrArg some (by kernel_rfl))
  t0 := Tryz.underlying0
  a0 := Tryz.isAgg0
  z0 := Tryz.sizeOf0
  v0 := Tryz.zeroValue0
  t3 := Tryz.underlying3
  a3 := Tryz.isAgg3
  z3 := Tryz.sizeOf3
  v3 := Tryz.zeroValue3
  t4 := Tryz.underlying4
  a4 := Tryz.isAgg4
  z4 := Tryz.sizeOf4
  v4 := Tryz.zeroValue4
  t5 := Tryz.underlying5
  a5 := Tryz.isAgg5
  z5 := Tryz.sizeOf5
  v5 := Tryz.zeroValue5
  t9 := Tryz.underlying9
  a9 := Tryz.isAgg9
  z9 := Tryz.sizeOf9
  v9 := Tryz.zeroValue9
  t21 := Tryz.underlying21
  a21 := Tryz.isAgg21
  z21 := Tryz.sizeOf21
  v21 := Tryz.zeroValue21
  t46 := Tryz.underlying126
  a46 := Tryz.isAgg126
  z46 := Tryz.sizeOf126
  v46 := Tryz.zeroValue126
  t105 := Tryz.underlying91
  a105 := Tryz.isAgg91
  z105 := Tryz.sizeOf91
  v105 := Tryz.zeroValue91
  t116 := Tryz.underlying99
  a116 := Tryz.isAgg99
  z116 := Tryz.sizeOf99
  t117 := Tryz.underlying100
  a117 := Tryz.isAgg100
  z117 := Tryz.sizeOf100
  v117 := Tryz.zeroValue100
  t119 := Tryz.underlying125
  a119 := Tryz.isAgg125
  z119 := Tryz.sizeOf125
  t124 := Tryz.underlying103
  a124 := Tryz.isAgg103
  z124 := Tryz.sizeOf103
  v124 := Tryz.zeroValue103
  t138 := Tryz.underlying128
  a138 := Tryz.isAgg128
  z138 := Tryz.sizeOf128
  v138 := Tryz.zeroValue128
  t139 := Tryz.underlying129
  a139 := Tryz.isAgg129
  z139 := Tryz.sizeOf129
  v139 := Tryz.zeroValue129
  g3 := by kernel_rfl
  g4 := by kernel_rfl }
open Go.RowKit Go.Lib in
theorem Tryz.strings_Trim_laid (s cutset : ByteArray) (w : Go.World) (hs : s.size ≤ 9223372036854775807) (hcs : cutset.size < 4294967281) (hascii : ∀ (j : Nat) b, cutset.data.toList[j]? = some b → b.toNat < 128) :
    Calls Tryz.prog 43 #[.string s, .string cutset] w fun e w' => e = .returned (.string ⟨(Go.Lib.trimS s.data.toList cutset.data.toList).toArray⟩) ∧ Below w.heap.size w w' := Any.strings_Trim_laid Tryz.lays160 (by kernel_rfl) s cutset w hs hcs hascii
end Go.Proofs

/- Contracts: strings.Trim of marks, clue.Check, clue.Letters. -/
set_option linter.unusedVariables false
set_option linter.unusedSimpArgs false
namespace Go.Proofs.YtbjgfjmknnbahaaGreatDoor
open Go.RowKit

theorem dropWhile_all {p : UInt8 → Bool} : ∀ l : List UInt8, (l.dropWhile p = [] ↔ l.all p = true)
  | [] => by simp
  | x :: l => by
    rw [List.dropWhile_cons, List.all_cons]
    cases h : p x with
    | true => simpa using dropWhile_all l
    | false => simp
theorem contains_mark (b : UInt8) : [44, 45].contains b = (b == 44 || b == 45) := by
  simp only [List.contains, List.elem]
  cases (b == 44) <;> cases (b == 45) <;> rfl
theorem trim_marks (mk : ByteArray) : (Lib.trimS mk.data.toList [44, 45] = [] ↔ marksOk mk = true) := by
  unfold marksOk
  have hf : (fun b : UInt8 => b == 44 || b == 45) = ([44, 45].contains ·) := by funext b; rw [contains_mark]
  rw [hf]
  unfold Lib.trimS Lib.trimLeftS Lib.trimRightS
  rw [dropWhile_all]
  constructor
  · intro h
    by_cases hc : (mk.data.toList.reverse.dropWhile ([44, 45].contains ·)) = []
    · have := (dropWhile_all _).1 hc
      simpa [List.all_reverse] using this
    · exfalso
      have hh := List.head_dropWhile_not ([44, 45].contains ·) hc
      rw [List.all_reverse, List.all_eq_true] at h
      have := h _ (List.head_mem hc)
      rw [this] at hh
      exact absurd hh (by decide)
  · intro h
    have : mk.data.toList.reverse.dropWhile ([44, 45].contains ·) = [] := (dropWhile_all _).2 (by simpa [List.all_reverse] using h)
    rw [this]
    rfl
theorem Trim_marks (mk : ByteArray) (w : World) (hs : mk.size ≤ 4294967296) :
    Calls Tryz.prog 43 #[.string mk, .string ⟨#[44, 45]⟩] w fun e w' => (∃ t : ByteArray, e = .returned (.string t) ∧ (t.toList == []) = marksOk mk) ∧ Below w.heap.size w w' := by
  refine (Tryz.strings_Trim_laid mk ⟨#[44, 45]⟩ w (by omega) (by decide) ?_).mono ?_
  · intro j b hb
    rcases j with _ | _ | j
    · simp at hb; subst hb; decide
    · simp at hb; subst hb; decide
    · simp at hb
  · rintro e w' ⟨rfl, hb⟩
    refine ⟨⟨_, rfl, ?_⟩, hb⟩
    rw [Lib.toList_data, Bool.eq_iff_iff, beq_iff_eq]
    exact trim_marks mk
theorem oddT_oddW : oddT = oddW := by
  funext x
  unfold oddT oddW emptyW
  rfl
theorem wordsBad_cases {ws : List ByteArray} (h1 : 1 ≤ ws.length) (h2 : ws.length ≤ 12) : wordsBad ws = ws.any oddW := by
  unfold wordsBad
  rw [decide_eq_false (show ¬ (ws.length < 1 ∨ 12 < ws.length) by omega), oddT_oddW]
  rfl

set_option maxHeartbeats 4000000 in
set_option maxRecDepth 100000 in
theorem Check_any (v : Value) (ws : List ByteArray) (zs : List Int) (mk : ByteArray) (w : World) (hc : IsClue w v ws zs mk) (h1 : ws.length ≤ 4294967296) (h2 : zs.length ≤ 4294967296) (h3 : mk.size ≤ 4294967296) (h4 : ∀ x ∈ ws, x.size ≤ 4294967296) :
    Calls Tryz.prog 11 #[v] w fun e w' => e = .returned (.int .i64 (checkF ws zs mk : Nat)) ∧ Below w.heap.size w w' := by
  obtain ⟨A, n, c, B, m, d, rfl, ha, hb, k1, k2, k3, k4, hn, hm⟩ := hc.ex
  obtain ⟨R, hR⟩ : ∃ R, checkF ws zs mk = R := ⟨_, rfl⟩
  rw [hR]
  have hg0 := heap_alloc_new w (.cells #[.slice A n c, .slice B m d, .string mk] 26)
  have hb0 : Below w.heap.size w (w.alloc (.cells #[.slice A n c, .slice B m d, .string mk] 26)) := (Below.refl _ _).alloc (Nat.le_refl _) _
  by_cases hbad : n < 1 ∨ 12 < n
  · have hR2 : R = 160 := by
      rw [← hR]
      unfold checkF wordsBad
      have : decide (ws.length < 1 ∨ 12 < ws.length) = true := decide_eq_true (by omega)
      rw [this]
      simp
    clear hR h4 hc hg0
    subst hR2
    rcases hbad with hb1 | hb2
    all_goals (
      go_enter Tryz.func11, Tryz.ntmps11
      go_wp2
      go_ret
      exact ⟨rfl, hb0⟩)
  have hn1 : 1 ≤ n := by omega
  have hn2 : n ≤ 12 := by omega
  have hwc := wordsBad_cases (ws := ws) (by omega) (by omega)
  clear hbad
  have HO := Lib.hid (fun W (h : Rd W 1 A n (ws.map eS)) => ContainsOdd_any A n c ws W h (by omega) h4)
  have ha0 := ha.keep hb0
  cases ho : ws.any oddW with
  | true =>
    have hR2 : R = 160 := by
      rw [← hR]; unfold checkF
      rw [hwc, ho]; rfl
    rw [ho] at HO
    clear hR h4 hc hwc ho
    subst hR2
    go_enter Tryz.func11, Tryz.ntmps11
    go_wp2_with (go_at_call 41; refine (HO.out _ ha0).mono ?_; rintro e w2 ⟨rfl, hb2⟩)
    go_ret
    exact ⟨rfl, below_then hb0 hb0.size hb2⟩
  | false =>
    rw [ho] at HO
    have hR2 : R = if sizesBad zs mk then 161 else 0 := by
      rw [← hR]; unfold checkF
      rw [hwc, ho]; rfl
    clear hR h4 hc hwc ho
    have HS := Lib.hid (fun W (h : Rd W 1 B m (zs.map eZ)) => Sum_any B m d zs W h (by omega))
    cases hok : okZ zs with
    | false =>
      have hR3 : R = 161 := by
        rw [hR2]; unfold sizesBad; rw [hok]; rfl
      rw [hok] at HS
      clear hR2 hok
      subst hR3
      go_enter Tryz.func11, Tryz.ntmps11
      go_wp2_with (first
        | (go_at_call 41; refine (HO.out _ ha0).mono ?_; rintro e w2 ⟨rfl, hb2⟩; have hg2 := (hb2.block _ (heap_lt hg0)).trans hg0; have c12 := cell_of_row w2 _ 1 _ _ _ hg2; have c22 := cell_of_row w2 _ 2 _ _ _ hg2; have hbr := (hb.keep hb0).keep hb2)
        | (go_at_call 42; refine (HS.out _ hbr).mono ?_; rintro e w3 ⟨⟨v, rfl, hv⟩, rfl⟩; clear hv))
      go_ret
      exact ⟨rfl, below_then hb0 hb0.size hb2⟩
    | true =>
      rw [hok] at HS
      by_cases hz1 : mk.size + 1 = m
      · have hR3 : R = if marksOk mk then 0 else 161 := by
          rw [hR2]; unfold sizesBad
          rw [hok, show (mk.size + 1 == zs.length) = true by simp; omega]
          cases marksOk mk <;> rfl
        have hz2 : ((mk.size : Int) != (m : Int) - 1) = false := by simp; omega
        have HT := Lib.hid (fun W => Trim_marks mk W h3)
        cases hmk : marksOk mk with
        | true =>
          rw [hmk] at HT hR3
          have hR4 : R = 0 := hR3
          clear hR2 hR3 hmk hok
          subst hR4
          go_enter Tryz.func11, Tryz.ntmps11
          go_wp2_with (first
            | (go_at_call 41; refine (HO.out _ ha0).mono ?_; rintro e w2 ⟨rfl, hb2⟩; have hg2 := (hb2.block _ (heap_lt hg0)).trans hg0; have c12 := cell_of_row w2 _ 1 _ _ _ hg2; have c22 := cell_of_row w2 _ 2 _ _ _ hg2; have hbr := (hb.keep hb0).keep hb2)
            | (go_at_call 42; refine (HS.out _ hbr).mono ?_; rintro e w3 ⟨⟨v, rfl, hv⟩, rfl⟩; clear hv)
            | (go_at_call 43; refine (HT.out _).mono ?_; rintro e w4 ⟨⟨t, rfl, ht⟩, hb4⟩))
          go_ret
          exact ⟨rfl, below_then (below_then hb0 hb0.size hb2) (by have := hb0.size; have := hb2.size; omega) hb4⟩
        | false =>
          rw [hmk] at HT hR3
          have hR4 : R = 161 := hR3
          clear hR2 hR3 hmk hok
          subst hR4
          go_enter Tryz.func11, Tryz.ntmps11
          go_wp2_with (first
            | (go_at_call 41; refine (HO.out _ ha0).mono ?_; rintro e w2 ⟨rfl, hb2⟩; have hg2 := (hb2.block _ (heap_lt hg0)).trans hg0; have c12 := cell_of_row w2 _ 1 _ _ _ hg2; have c22 := cell_of_row w2 _ 2 _ _ _ hg2; have hbr := (hb.keep hb0).keep hb2)
            | (go_at_call 42; refine (HS.out _ hbr).mono ?_; rintro e w3 ⟨⟨v, rfl, hv⟩, rfl⟩; clear hv)
            | (go_at_call 43; refine (HT.out _).mono ?_; rintro e w4 ⟨⟨t, rfl, ht⟩, hb4⟩))
          go_ret
          exact ⟨rfl, below_then (below_then hb0 hb0.size hb2) (by have := hb0.size; have := hb2.size; omega) hb4⟩
      · have hR3 : R = 161 := by
          rw [hR2, sizesBad_len zs mk (.inr (by omega))]; rfl
        have hz2 : ((mk.size : Int) != (m : Int) - 1) = true := by simp; omega
        clear hR2 hok
        subst hR3
        go_enter Tryz.func11, Tryz.ntmps11
        go_wp2_with (first
          | (go_at_call 41; refine (HO.out _ ha0).mono ?_; rintro e w2 ⟨rfl, hb2⟩; have hg2 := (hb2.block _ (heap_lt hg0)).trans hg0; have c12 := cell_of_row w2 _ 1 _ _ _ hg2; have c22 := cell_of_row w2 _ 2 _ _ _ hg2; have hbr := (hb.keep hb0).keep hb2)
          | (go_at_call 42; refine (HS.out _ hbr).mono ?_; rintro e w3 ⟨⟨v, rfl, hv⟩, rfl⟩; clear hv))
        go_ret
        exact ⟨rfl, below_then hb0 hb0.size hb2⟩

set_option maxHeartbeats 2000000 in
set_option maxRecDepth 100000 in
theorem Letters_any (v : Value) (ws : List ByteArray) (zs : List Int) (mk : ByteArray) (w : World) (hc : IsClue w v ws zs mk) (h1 : ws.length ≤ 4294967296) (h2 : zs.length ≤ 4294967296) (h3 : mk.size ≤ 4294967296) (h4 : ∀ x ∈ ws, x.size ≤ 4294967296) :
    Calls Tryz.prog 23 #[v] w fun e w' => e = .returned (.int .i64 (lettersF ws zs mk)) ∧ Below w.heap.size w w' := by
  have HC := Lib.hid (fun W (h : IsClue W v ws zs mk) => Check_any v ws zs mk W h h1 h2 h3 h4)
  have hcl := hc
  obtain ⟨A, n, c, B, m, d, rfl, ha, hb, k1, k2, k3, k4, hn, hm⟩ := hc.ex
  have hg0 := heap_alloc_new w (.cells #[.slice A n c, .slice B m d, .string mk] 26)
  have hb0 : Below w.heap.size w (w.alloc (.cells #[.slice A n c, .slice B m d, .string mk] 26)) := (Below.refl _ _).alloc (Nat.le_refl _) _
  have hcl2 := hcl.keep hb0
  clear h4 hc
  by_cases hz : checkF ws zs mk = 0
  · obtain ⟨hok, _, _, _⟩ := check_ok hz
    have hL : lettersF ws zs mk = sumZ zs := by unfold lettersF; rw [if_pos hz]
    have HS := Lib.hid (fun W (h : Rd W 1 B m (zs.map eZ)) => Sum_any B m d zs W h (by omega))
    rw [hL]
    rw [hz] at HC
    rw [hok] at HS
    generalize sumZ zs = S at HS ⊢
    clear hz hL hok
    go_enter Tryz.func23, Tryz.ntmps23
    go_wp2_with (first
      | (refine wpList_load_row rfl 26 _ rfl w.heap.size rfl 26 _ (0, 0) _ hg0 Tryz.underlying26 rfl rfl ?_)
      | (go_at_call 11; refine (HC.out _ hcl2).mono ?_; rintro e w2 ⟨rfl, hb2⟩; have hg2 := (hb2.block _ (heap_lt hg0)).trans hg0; have c12 := cell_of_row w2 _ 1 _ _ _ hg2; have hbr := (hb.keep hb0).keep hb2)
      | (go_at_call 42; refine (HS.out _ hbr).mono ?_; rintro e w3 ⟨⟨v, rfl, hv⟩, rfl⟩; have hv := hv (by trivial); subst hv))
    go_ret
    exact ⟨rfl, below_then hb0 hb0.size hb2⟩
  · have hL : lettersF ws zs mk = 0 := by unfold lettersF; rw [if_neg hz]
    rw [hL]
    generalize checkF ws zs mk = q at hz HC
    have hq : ((q : Int) != 0) = true := by simp; omega
    clear hL hz
    go_enter Tryz.func23, Tryz.ntmps23
    go_wp2_with (first
      | (refine wpList_load_row rfl 26 _ rfl w.heap.size rfl 26 _ (0, 0) _ hg0 Tryz.underlying26 rfl rfl ?_)
      | (go_at_call 11; refine (HC.out _ hcl2).mono ?_; rintro e w2 ⟨rfl, hb2⟩))
    go_ret
    exact ⟨rfl, below_then hb0 hb0.size hb2⟩
end Go.Proofs.YtbjgfjmknnbahaaGreatDoor

/- Contract: rebuslaw16.awake. -/
set_option linter.unusedVariables false
set_option linter.unusedSimpArgs false
namespace Go.Proofs.YtbjgfjmknnbahaaGreatDoor
open Go.RowKit

def awakeB : ByteArray := ⟨#[66, 105, 114, 100, 32, 32, 102, 108, 121, 105, 110, 103, 32, 40, 53, 44, 51, 45, 52, 41, 32]⟩
theorem awake_parse : parseF awakeB = ([⟨#[66, 105, 114, 100]⟩, ⟨#[102, 108, 121, 105, 110, 103]⟩], [5, 3, 4], ⟨#[44, 45]⟩, 0, 0) := by kernel_rfl
/-- What a text read tells, in the open. -/
theorem PTold.open {w w' : World} {ws : List ByteArray} {l : List Nat} {mk : ByteArray} {a x : Nat} {e : Ending} (h : PTold w w' (ws, l, mk, a, x) e) :
    ∃ A c B d, e = .returned (.tuple #[.agg #[.slice A ws.length c, .slice B l.length d, .string mk], .int .i64 a, .int .i64 x]) ∧ IsClue w' (.agg #[.slice A ws.length c, .slice B l.length d, .string mk]) ws (l.map Int.ofNat) mk ∧ Below w.heap.size w w' := by
  obtain ⟨hb, v, he, hc⟩ := h
  have hc2 := hc
  obtain ⟨A, n, c, B, m, d, rfl, h1, h2, h3, h4, h5, h6, h7, h8⟩ := hc.ex
  simp only [List.length_map] at h8
  subst h7 h8
  exact ⟨A, c, B, d, he, hc2, hb⟩
theorem letters_sum {ws : List ByteArray} {zs : List Int} {mk : ByteArray} (h : checkF ws zs mk = 0) : lettersF ws zs mk = sumZ zs := by unfold lettersF; rw [if_pos h]

set_option maxHeartbeats 4000000 in
set_option maxRecDepth 100000 in
theorem Awake_any (w : World) (hv : Vars w) : Calls Tryz.prog 7 #[] w fun e w' => e = .returned (.bool true) ∧ Below w.heap.size w w' := by
  have hpr := parse_right awake_parse
  have hlt := letters_sum hpr
  rw [show sumZ ([5, 3, 4].map Int.ofNat) = 12 from rfl] at hlt
  have HP := Lib.hid (fun W (h : Vars W) => (Parse_any awakeB W h).mono (fun e w' k => (PTold.open (awake_parse ▸ k))))
  have HL := Lib.hid (fun v W hc => (hlt ▸ Letters_any v [⟨#[66, 105, 114, 100]⟩, ⟨#[102, 108, 121, 105, 110, 103]⟩] ([5, 3, 4].map Int.ofNat) ⟨#[44, 45]⟩ W hc (by decide) (by decide) (by decide) (by decide) : Calls Tryz.prog 23 #[v] W fun e w' => e = .returned (.int .i64 12) ∧ Below W.heap.size W w'))
  clear hpr hlt
  go_enter Tryz.func7, Tryz.ntmps7
  go_wp2_with (first
    | (go_at_call 8; refine (HP.out _ hv).mono ?_; rintro e w1 ⟨A, c, B, d, rfl, hcl, hb1⟩)
    | (go_at_call 23; refine (HL.out _ _ (hcl.keep ((Below.refl _ _).alloc (Nat.le_refl _) _))).mono ?_; rintro e w2 ⟨rfl, hb2⟩))
  go_ret
  exact ⟨rfl, below_then (hb1.alloc hb1.size _) (by have := hb1.size; simp; omega) hb2⟩
end Go.Proofs.YtbjgfjmknnbahaaGreatDoor
