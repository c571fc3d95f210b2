/- Texts joined: Parse, WordsP, CheckSpec, ParseRight, IndexOdd. -/
import Derived.Test.YtbjgfjmknnbahaaGreatDoorR3
import Derived.Test.YtbjgfjmknnbahaaGreatDoorR6
import Derived.Test.YtbjgfjmknnbahaaGreatDoorR8
import Derived.Test.YtbjgfjmknnbahaaGreatDoorR9
import Derived.Test.YtbjgfjmknnbahaaGreatDoorR5
import Derived.Test.YtbjgfjmknnbahaaGreatDoorR7
import Derived.Test.YtbjgfjmknnbahaaGreatDoorR4
/- Contract: clue.Parse. -/
set_option linter.unusedVariables false
set_option linter.unusedSimpArgs false
namespace Go.Proofs.YtbjgfjmknnbahaaGreatDoor
open Go.RowKit

theorem innerT_size (T : ByteArray) : (innerT T).size ≤ T.size := by
  unfold innerT
  rw [Lib.size_eq, Lib.size_eq]
  unfold Lib.trimSuffix
  split
  · simp
  · exact Nat.le_refl _
theorem CutSuffix_any (T : ByteArray) (w : World) (hs : T.size ≤ 4294967296) :
    Calls Tryz.prog 25 #[.string T, .string ⟨#[41]⟩] w fun e w' => e = .returned (.tuple #[.string (innerT T), .bool (closedT T)]) ∧ w = w' := by
  refine (Tryz.strings_CutSuffix T ⟨#[41]⟩ w (by omega)).mono ?_
  rintro e w' ⟨he, hw⟩
  exact ⟨he, hw.symm⟩
theorem LastIdx_any (s : ByteArray) (w : World) (hs : s.size ≤ 4294967296) :
    Calls Tryz.prog 28 #[.string s, .int .u8 40] w fun e w' => e = .returned (.int .i64 (Lib.lastIndexByte s 40)) ∧ w = w' := by
  refine (Tryz.strings_LastIndexByte s 40 (by omega) w).mono ?_
  rintro e w' ⟨he, hw⟩
  exact ⟨he, hw.symm⟩
theorem open_range (s : ByteArray) : Lib.lastIndexByte s 40 = -1 ∨ ∃ k : Nat, Lib.lastIndexByte s 40 = k ∧ k < s.size := by
  rcases Lib.lastIndexByte_spec s 40 with ⟨h, _⟩ | ⟨i, h1, h2, _⟩
  · exact .inl h
  · exact .inr ⟨i, h2, h1⟩

set_option maxHeartbeats 8000000 in
set_option maxRecDepth 100000 in
theorem Parse_any (s : ByteArray) (w : World) (hv : Vars w) :
    Calls Tryz.prog 8 #[.string s] w fun e w' => PTold w w' (parseF s) e := by
  rw [← parseG_eq]
  obtain ⟨R, hR⟩ : ∃ R, parseG s = R := ⟨_, rfl⟩
  rw [hR]
  unfold parseG at hR
  by_cases hbig : 65536 < s.size
  · rw [if_pos hbig] at hR
    have HR := Lib.hid hR
    clear hR hv
    go_enter Tryz.func8, Tryz.ntmps8
    go_wp2
    refine bodyPost_ret (results_cell_row3 rfl _ _ w.heap.size 26 _ (0, 0) _ rfl (heap_alloc_new w _) Tryz.underlying26 rfl rfl) rfl ?_
    exact told_bad ((Below.refl _ _).alloc (Nat.le_refl _) _) HR.out rfl rfl
  rw [if_neg hbig] at hR
  have hsz : s.size ≤ 65536 := by omega
  have hTs : (Lib.trimRightF blankB s).size ≤ s.size := by show (s.extract 0 _).size ≤ _; rw [ByteArray.size_extract]; omega
  have HTr := Lib.hid (fun W (h : Vars W) => Tryz.strings_TrimRightFunc_grows 27 #[] enter_blank blankB s W (by omega) h.tabs (blank_grows W))
  generalize Lib.trimRightF blankB s = T at hR hTs HTr
  have HCt := Lib.hid (fun W => CutSuffix_any T W (by omega))
  have hIs := innerT_size T
  generalize innerT T = In at hR hIs HCt
  have HL := Lib.hid (fun W => LastIdx_any In W (by omega))
  have hor := open_range In
  generalize Lib.lastIndexByte In 40 = o at hR HL hor
  have hg0 := heap_alloc_new w (.cells #[.slice none 0 0, .slice none 0 0, .string ⟨#[]⟩] 26)
  have hb0 : Below w.heap.size w (w.alloc (.cells #[.slice none 0 0, .slice none 0 0, .string ⟨#[]⟩] 26)) := (Below.refl _ _).alloc (Nat.le_refl _) _
  have hv0 := hv.keep hb0
  clear hv hbig
  cases hcl : closedT T with
  | false =>
    rw [hcl] at hR HCt
    rw [if_pos (.inl rfl)] at hR
    have HR := Lib.hid hR
    clear hR hor hcl
    go_enter Tryz.func8, Tryz.ntmps8
    go_wp2_with (first
      | (go_at_call 26; refine (HTr.out _ hv0).mono ?_; rintro e w1 ⟨rfl, hb1⟩; have h2 := (hb1.block _ (heap_lt hg0)).trans hg0; have hbw := below_then hb0 hb0.size hb1)
      | (go_at_call 25; refine (HCt.out _).mono ?_; rintro e w' ⟨rfl, rfl⟩)
      | (go_at_call 28; refine (HL.out _).mono ?_; rintro e w' ⟨rfl, rfl⟩)
      | (refine wpList_store_row rfl 26 _ _ rfl w.heap.size #[.slice none 0 0, .slice none 0 0, .string ⟨#[]⟩] rfl rfl 26 _ h2 rfl rfl (one3 _ _ _ _ _ _ _) ?_))
    (try simp only [Exit.inBlock, Exit.then]); refine bodyPost_ret (results_cell_row3 rfl _ _ w.heap.size 26 _ (0, 0) _ rfl (setRow_heap _ _ _ _ _ _ h2) Tryz.underlying26 rfl rfl) rfl ?_
    exact told_bad (below_setRow hbw (Nat.le_refl _) _) HR.out rfl rfl
  | true =>
    rw [hcl] at hR HCt
    rcases hor with rfl | ⟨k, rfl, hk⟩
    · rw [if_pos (.inr (by omega))] at hR
      have HR := Lib.hid hR
      clear hR hcl
      go_enter Tryz.func8, Tryz.ntmps8
      go_wp2_with (first
        | (go_at_call 26; refine (HTr.out _ hv0).mono ?_; rintro e w1 ⟨rfl, hb1⟩; have h2 := (hb1.block _ (heap_lt hg0)).trans hg0; have hbw := below_then hb0 hb0.size hb1)
        | (go_at_call 25; refine (HCt.out _).mono ?_; rintro e w' ⟨rfl, rfl⟩)
        | (go_at_call 28; refine (HL.out _).mono ?_; rintro e w' ⟨rfl, rfl⟩)
        | (refine wpList_store_row rfl 26 _ _ rfl w.heap.size #[.slice none 0 0, .slice none 0 0, .string ⟨#[]⟩] rfl rfl 26 _ h2 rfl rfl (one3 _ _ _ _ _ _ _) ?_))
      (try simp only [Exit.inBlock, Exit.then]); refine bodyPost_ret (results_cell_row3 rfl _ _ w.heap.size 26 _ (0, 0) _ rfl (setRow_heap _ _ _ _ _ _ h2) Tryz.underlying26 rfl rfl) rfl ?_
      exact told_bad (below_setRow hbw (Nat.le_refl _) _) HR.out rfl rfl
    · rw [if_neg (by simp), Int.toNat_natCast] at hR
      have HS := Lib.hid (fun W (h : Vars W) => Sizes_any (In.extract (k + 1) In.size) W (by rw [ByteArray.size_extract]; omega) h)
      generalize sizesF (In.extract (k + 1) In.size) = Z at hR HS
      clear hcl
      cases Z with
      | none =>
        simp only at hR
        have HR := Lib.hid hR
        clear hR
        go_enter Tryz.func8, Tryz.ntmps8
        go_wp2_with (first
          | (go_at_call 26; refine (HTr.out _ hv0).mono ?_; rintro e w1 ⟨rfl, hb1⟩; have h2 := (hb1.block _ (heap_lt hg0)).trans hg0; have hbw := below_then hb0 hb0.size hb1; have hv1 := hv0.keep hb1)
          | (go_at_call 25; refine (HCt.out _).mono ?_; rintro e w' ⟨rfl, rfl⟩)
          | (go_at_call 28; refine (HL.out _).mono ?_; rintro e w' ⟨rfl, rfl⟩)
          | (go_at_call 29; refine (HS.out _ hv1).mono ?_; rintro e w3 ⟨hb3, ⟨l, mk, A, c, hx, _⟩ | ⟨_, v, mk, rfl⟩⟩; first | (exact absurd hx (by intro h; cases h)) | skip)
          | (refine wpList_store_row rfl 26 _ _ rfl w.heap.size #[.slice none 0 0, .slice none 0 0, .string ⟨#[]⟩] rfl rfl 26 _ ((hb3.block _ (heap_lt h2)).trans h2) rfl rfl (one3 _ _ _ _ _ _ _) ?_))
        (try simp only [Exit.inBlock, Exit.then]); refine bodyPost_ret (results_cell_row3 rfl _ _ w.heap.size 26 _ (0, 0) _ rfl (setRow_heap _ _ _ _ _ _ ((hb3.block _ (heap_lt h2)).trans h2)) Tryz.underlying26 rfl rfl) rfl ?_
        exact told_bad (below_setRow (below_then hbw hbw.size hb3) (Nat.le_refl _) _) HR.out rfl rfl
      | some q =>
        obtain ⟨l, mk⟩ := q
        simp only at hR
        have hwl := wordsL_length (s.extract 0 k)
        have hwz := wordsL_size (s.extract 0 k)
        have hxs : (s.extract 0 k).size = k := by rw [ByteArray.size_extract]; omega
        rw [hxs] at hwl hwz
        have HW := Lib.hid (fun W => Words_any (s.extract 0 k) W (by omega))
        generalize wordsL (s.extract 0 k) = ws at hR HW hwl hwz
        have HD := Lib.hid (fun A c B W (ha : W.ownsRow B 9 1 (.slice A ws.length c) ws.length (ws.map eS)) (hB : B ≤ W.heap.size) (hnc : ws.length ≤ c) => Delete_any A ws.length c B ws W ha hB (by omega) hnc (fun x hx => Nat.le_trans (hwz x hx) (by omega)))
        clear hwz hxs
        have hkl := keepW_le ws
        generalize keepW ws = kw at hR HD hkl
        unfold parseEnd at hR
        have HS2 := Lib.hid (fun W (h : Vars W) => show Calls Tryz.prog 29 #[.string (In.extract (k + 1) In.size)] W (fun e w' => ∃ A c, e = .returned (.tuple #[.slice A l.length c, .string mk, .bool true]) ∧ l.length ≤ c ∧ c ≤ maxLen ∧ w'.ownsRow W.heap.size 3 1 (.slice A l.length c) l.length (l.map eI) ∧ Rd w' 1 A l.length (l.map eI) ∧ Below W.heap.size W w') from by
          refine (HS.out W h).mono ?_
          rintro e w' ⟨hb, ⟨l', mk', A, c, hx, he, k1, k2, k3, k4⟩ | ⟨hx, _⟩⟩
          · injection hx with hx
            injection hx with hx1 hx2
            subst hx1; subst hx2
            exact ⟨A, c, he, k1, k2, k3, k4, hb⟩
          · cases hx)
        clear HS
        by_cases hbad : kw.length < 1 ∨ 12 < kw.length
        · rw [if_pos hbad] at hR
          have HR := Lib.hid hR
          clear hR
          rcases hbad with hbd | hbd
          all_goals (
            go_enter Tryz.func8, Tryz.ntmps8
            go_wp2_with (first
            | (go_at_call 26; refine (HTr.out _ hv0).mono ?_; rintro e w1 ⟨rfl, hb1⟩; have h2 := (hb1.block _ (heap_lt hg0)).trans hg0; have hbw := below_then hb0 hb0.size hb1; have hv1 := hv0.keep hb1)
            | (go_at_call 25; refine (HCt.out _).mono ?_; rintro e w' ⟨rfl, rfl⟩)
            | (go_at_call 28; refine (HL.out _).mono ?_; rintro e w' ⟨rfl, rfl⟩)
            | (go_at_call 29; refine (HS2.out _ hv1).mono ?_; rintro e w3 ⟨A3, c3, rfl, q1, q2, hown3, hrd3, hb3⟩; have h3 := (hb3.block _ (heap_lt h2)).trans h2; have hbw3 := below_then hbw hbw.size hb3)
            | (go_at_call 20; refine (HW.out _).mono ?_; rintro e w4 ⟨A4, c4, rfl, g1, g2, hown4, hrd4, hb4⟩)
            | (go_at_call 30; refine (HD.out A4 c4 w3.heap.size _ hown4 hb4.size g1).mono ?_; rintro e w5 ⟨rfl, hrd5, hb5⟩; have hb45 := hb4.trans hb5; have h5 := (hb45.block _ (heap_lt h3)).trans h3; have hbw5 := below_then hbw3 hbw3.size hb45)
            | (refine wpList_store_row rfl 26 _ _ rfl w.heap.size #[.slice none 0 0, .slice none 0 0, .string ⟨#[]⟩] rfl rfl 26 _ h5 rfl rfl (one3 _ _ _ _ _ _ _) ?_))
            (try simp only [Exit.inBlock, Exit.then]); refine bodyPost_ret (results_cell_row3 rfl _ _ w.heap.size 26 _ (0, 0) _ rfl (setRow_heap _ _ _ _ _ _ h5) Tryz.underlying26 rfl rfl) rfl ?_
            exact told_bad (below_setRow hbw5 (Nat.le_refl _) _) HR.out rfl rfl)
        · rw [if_neg hbad] at hR
          have HR := Lib.hid hR
          have hk1 : 1 ≤ kw.length := by omega
          have hk2 : kw.length ≤ 12 := by omega
          clear hR hbad
          go_enter Tryz.func8, Tryz.ntmps8
          go_wp2_with (first
            | (go_at_call 26; refine (HTr.out _ hv0).mono ?_; rintro e w1 ⟨rfl, hb1⟩; have h2 := (hb1.block _ (heap_lt hg0)).trans hg0; have hbw := below_then hb0 hb0.size hb1; have hv1 := hv0.keep hb1)
            | (go_at_call 25; refine (HCt.out _).mono ?_; rintro e w' ⟨rfl, rfl⟩)
            | (go_at_call 28; refine (HL.out _).mono ?_; rintro e w' ⟨rfl, rfl⟩)
            | (go_at_call 29; refine (HS2.out _ hv1).mono ?_; rintro e w3 ⟨A3, c3, rfl, q1, q2, hown3, hrd3, hb3⟩; have h3 := (hb3.block _ (heap_lt h2)).trans h2; have hbw3 := below_then hbw hbw.size hb3)
            | (go_at_call 20; refine (HW.out _).mono ?_; rintro e w4 ⟨A4, c4, rfl, g1, g2, hown4, hrd4, hb4⟩)
            | (go_at_call 30; refine (HD.out A4 c4 w3.heap.size _ hown4 hb4.size g1).mono ?_; rintro e w5 ⟨rfl, hrd5, hb5⟩; have hb45 := hb4.trans hb5; have h5 := (hb45.block _ (heap_lt h3)).trans h3; have hbw5 := below_then hbw3 hbw3.size hb45)
            | (refine wpList_store_row rfl 26 _ _ rfl w.heap.size #[.slice A4 kw.length c4, .slice A3 l.length c3, .string mk] rfl rfl 26 _ h5 rfl rfl (one3 _ _ _ _ _ _ _) ?_))
          (try simp only [Exit.inBlock, Exit.then]); refine bodyPost_ret (results_cell_row3 rfl _ _ w.heap.size 26 _ (0, 0) _ rfl (setRow_heap _ _ _ _ _ _ h5) Tryz.underlying26 rfl rfl) rfl ?_
          refine told_ok (below_setRow hbw5 (Nat.le_refl _) _) HR.out ?_
          have hA4 : ∀ b o, A4 = some ⟨b, o, none⟩ → b ≠ w.heap.size := fun b o e => by
            subst e
            have e3 := own_block hown4
            have := hbw3.size
            have := heap_lt h2
            have := hb3.size
            omega
          have hA3 : ∀ b o, A3 = some ⟨b, o, none⟩ → b ≠ w.heap.size := fun b o e => by
            subst e
            have e3 := own_block hown3
            have := heap_lt h2
            omega
          exact ⟨_, _, _, _, _, _, rfl, hrd5.apart hA4 ((Apart.refl _ _).setRow _), by rw [mapZ]; exact (hrd3.keep hb45).apart hA3 ((Apart.refl _ _).setRow _), by omega, q1, g2, q2, rfl, by simp⟩
end Go.Proofs.YtbjgfjmknnbahaaGreatDoor

/- Plain Lean: the words of a text, by its runes. -/
set_option linter.unusedVariables false
set_option linter.unusedSimpArgs false
namespace Go.Proofs.YtbjgfjmknnbahaaGreatDoor
open Go.RowKit

def wordsP : List (Nat × ByteArray) → Option ByteArray → List ByteArray
  | [], none => []
  | [], some a => [a]
  | x :: l, none => if blankB x.1 then wordsP l none else wordsP l (some x.2)
  | x :: l, some a => if blankB x.1 then a :: wordsP l none else wordsP l (some (a ++ x.2))
theorem wordsP_eq (s : ByteArray) : ∀ (f pos : Nat) (st : Option Nat) (acc : List (Nat × Nat)), s.size ≤ pos + f → pos ≤ s.size → (∀ a, st = some a → a ≤ pos) →
    (Lib.closeSpans s (Lib.spansFromP blankB s f pos st acc)).map (fun x => s.extract x.1 x.2) = acc.map (fun x => s.extract x.1 x.2) ++ wordsP (piecesF s f pos) (st.map (fun a => s.extract a pos))
  | 0, pos, st, acc, h, hp, hst => by
    obtain rfl : pos = s.size := by omega
    cases st with
    | none => simp [Lib.spansFromP, Lib.closeSpans, piecesF, wordsP]
    | some a => simp [Lib.spansFromP, Lib.closeSpans, piecesF, wordsP]
  | f + 1, pos, st, acc, h, hp, hst => by
    unfold Lib.spansFromP piecesF
    by_cases hl : pos < s.size
    · have hw := width_pos s pos hl
      have hi := width_in s pos hl
      rw [if_pos hl, if_pos hl]
      cases hb : blankB (Utf8.decode s pos).1 with
      | true =>
        cases st with
        | none =>
          simp only [if_true, Option.map_none, wordsP, hb]
          rw [wordsP_eq s f _ none acc (by omega) hi (by simp)]
          rfl
        | some a =>
          simp only [if_true, Option.map_some, wordsP, hb]
          rw [wordsP_eq s f _ none _ (by omega) hi (by simp), List.map_append, List.append_assoc]
          rfl
      | false =>
        cases st with
        | none =>
          simp only [Bool.false_eq_true, if_false, Option.map_none, wordsP, hb]
          rw [wordsP_eq s f _ (some pos) acc (by omega) hi (by intro a e; cases e; omega)]
          rfl
        | some a =>
          have ha := hst a rfl
          simp only [Bool.false_eq_true, if_false, Option.map_some, wordsP, hb]
          rw [wordsP_eq s f _ (some a) acc (by omega) hi (by intro a e; cases e; omega), extract_join s a pos _ ha (by omega)]
          rfl
    · obtain rfl : pos = s.size := by omega
      rw [if_neg hl, if_neg hl]
      cases st with
      | none => simp [Lib.closeSpans, wordsP]
      | some a => simp [Lib.closeSpans, wordsP]
theorem wordsL_P (s : ByteArray) : wordsL s = wordsP (pieces s) none := by
  have := wordsP_eq s s.size 0 none [] (by omega) (Nat.zero_le _) (by simp)
  simp only [List.map_nil, List.nil_append, Option.map_none] at this
  exact this
/-- Runes without a blank. -/
def Solid (l : List (Nat × ByteArray)) : Prop := ∀ x ∈ l, blankB x.1 = false
/-- Each word is so many runes of the text, one behind the other, none of them blank. -/
theorem wordsP_mem : ∀ (l m : List (Nat × ByteArray)) (st : Option ByteArray), (∀ a, st = some a → a = glue m ∧ Solid m ∧ m ≠ []) →
    ∀ x ∈ wordsP l st, ∃ p q r, (x = glue q ∧ Solid q ∧ q ≠ []) ∧ ((st = none ∧ l = p ++ (q ++ r)) ∨ (∃ a, st = some a ∧ m ++ l = p ++ (q ++ r)))
  | [], m, none, h, x, hx => by simp [wordsP] at hx
  | [], m, some a, h, x, hx => by
    simp only [wordsP, List.mem_singleton] at hx
    subst hx
    obtain ⟨h1, h2, h3⟩ := h _ rfl
    exact ⟨[], m, [], ⟨h1, h2, h3⟩, .inr ⟨_, rfl, by simp⟩⟩
  | y :: l, m, none, h, x, hx => by
    unfold wordsP at hx
    cases hb : blankB y.1 with
    | true =>
      rw [hb] at hx
      simp only [if_true] at hx
      obtain ⟨p, q, r, h1, h2⟩ := wordsP_mem l [] none (by simp) x hx
      rcases h2 with ⟨_, h2⟩ | ⟨a, h2, _⟩
      · exact ⟨y :: p, q, r, h1, .inl ⟨rfl, by rw [h2]; rfl⟩⟩
      · cases h2
    | false =>
      rw [hb] at hx
      simp only [Bool.false_eq_true, if_false] at hx
      obtain ⟨p, q, r, h1, h2⟩ := wordsP_mem l [y] (some y.2) (by intro a e; cases e; exact ⟨by simp [glue], by intro z hz; simp at hz; subst hz; exact hb, by simp⟩) x hx
      rcases h2 with ⟨h2, _⟩ | ⟨a, _, h2⟩
      · cases h2
      · exact ⟨p, q, r, h1, .inl ⟨rfl, h2⟩⟩
  | y :: l, m, some a, h, x, hx => by
    obtain ⟨k1, k2, k3⟩ := h _ rfl
    unfold wordsP at hx
    cases hb : blankB y.1 with
    | true =>
      rw [hb] at hx
      simp only [if_true] at hx
      rcases List.mem_cons.1 hx with rfl | hx
      · exact ⟨[], m, y :: l, ⟨k1, k2, k3⟩, .inr ⟨_, rfl, rfl⟩⟩
      · obtain ⟨p, q, r, h1, h2⟩ := wordsP_mem l [] none (by simp) x hx
        rcases h2 with ⟨_, h2⟩ | ⟨a, h2, _⟩
        · exact ⟨m ++ y :: p, q, r, h1, .inr ⟨_, rfl, by rw [h2]; simp⟩⟩
        · cases h2
    | false =>
      rw [hb] at hx
      simp only [Bool.false_eq_true, if_false] at hx
      obtain ⟨p, q, r, h1, h2⟩ := wordsP_mem l (m ++ [y]) (some (a ++ y.2)) (by
        intro a' e
        cases e
        refine ⟨by rw [glue_append, ← k1]; simp [glue], ?_, by simp⟩
        intro z hz
        rcases List.mem_append.1 hz with hz | hz
        · exact k2 z hz
        · simp at hz; subst hz; exact hb) x hx
      rcases h2 with ⟨h2, _⟩ | ⟨a', _, h2⟩
      · cases h2
      · exact ⟨p, q, r, h1, .inr ⟨_, rfl, by rw [← h2]; simp⟩⟩
theorem good_drop : ∀ {a b : List (Nat × ByteArray)}, Good (a ++ b) → Good b
  | [], _, h => h
  | x :: a, b, h => good_drop (a := a) (good_tail h)
/-- A word has no blank. -/
theorem wordsL_solid (s : ByteArray) : ∀ x ∈ wordsL s, Solid (pieces x) ∧ pieces x ≠ [] := by
  intro x hx
  rw [wordsL_P] at hx
  obtain ⟨p, q, r, ⟨h1, h2, h3⟩, h4⟩ := wordsP_mem (pieces s) [] none (by simp) x hx
  rcases h4 with ⟨_, h4⟩ | ⟨a, h4, _⟩
  · have hg := good_pieces s
    rw [h4] at hg
    have hq : Good q := good_take (good_drop hg)
    rw [h1, hq]
    exact ⟨h2, h3⟩
  · cases h4
theorem solid_noBlank {x : ByteArray} (h : Solid (pieces x)) : anyBlank (runes x) = false := by
  rw [← pieces_runes]
  unfold anyBlank
  rw [List.any_map, List.any_eq_false]
  intro y hy
  simp [h y hy]
theorem noBlank_solid {x : ByteArray} (h : anyBlank (runes x) = false) : Solid (pieces x) := by
  rw [← pieces_runes] at h
  unfold anyBlank at h
  rw [List.any_map, List.any_eq_false] at h
  intro y hy
  simpa using h y hy
theorem noBlank_empty : anyBlank (runes ByteArray.empty) = false := rfl
/-- A word, and what stands behind a blank. -/
theorem wordsP_word : ∀ (l r : List (Nat × ByteArray)) (a : ByteArray), Solid l → wordsP (l ++ r) (some a) = wordsP r (some (a ++ glue l))
  | [], r, a, _ => by simp [glue]
  | y :: l, r, a, h => by
    rw [List.cons_append, wordsP, h y (by simp)]
    simp only [Bool.false_eq_true, if_false]
    rw [wordsP_word l r _ (fun z hz => h z (List.mem_cons_of_mem _ hz))]
    simp [glue, ByteArray.append_assoc]
theorem wordsP_first (l r : List (Nat × ByteArray)) (h : Solid l) (hne : l ≠ []) : wordsP (l ++ r) none = wordsP r (some (glue l)) := by
  cases l with
  | nil => exact absurd rfl hne
  | cons y l =>
    rw [List.cons_append, wordsP, h y (by simp)]
    simp only [Bool.false_eq_true, if_false]
    rw [wordsP_word l r _ (fun z hz => h z (List.mem_cons_of_mem _ hz))]
    rfl
end Go.Proofs.YtbjgfjmknnbahaaGreatDoor

/- Words on which clues are right. -/
set_option linter.unusedVariables false
set_option linter.unusedSimpArgs false
namespace Go.Proofs.YtbjgfjmknnbahaaGreatDoor
open Go.RowKit

def oddT (x : ByteArray) : Bool := anyBlank (runes x) || !neW x
def wordsBad (ws : List ByteArray) : Bool := decide (ws.length < 1 ∨ 12 < ws.length) || ws.any oddT
def marksOk (mk : ByteArray) : Bool := mk.data.toList.all (fun b => b == 44 || b == 45)
def sizesBad (zs : List Int) (mk : ByteArray) : Bool := !okZ zs || !(mk.size + 1 == zs.length) || !marksOk mk
def checkF (ws : List ByteArray) (zs : List Int) (mk : ByteArray) : Nat := if wordsBad ws then 160 else if sizesBad zs mk then 161 else 0
/-- The document's loop over the sizes from place k on, a taken together so far. -/
def refZ (mk : ByteArray) : List Int → Nat → Int → Bool
  | [], _, a => decide (a ≤ 24)
  | z :: l, k, a => if z < 1 ∨ 24 < z ∨ 24 < a then false else if 0 < k ∧ (mk.get! (k - 1)).toNat ≠ 44 ∧ (mk.get! (k - 1)).toNat ≠ 45 then false else refZ mk l (k + 1) (a + z)
theorem okFrom_step (z : Int) (l : List Int) (a : Int) (h1 : 1 ≤ z) (h2 : z ≤ 24) (h3 : a + z ≤ 24) : okFrom (z :: l) a = okFrom l (a + z) := by
  simp only [okFrom]
  rw [if_neg (by omega), if_neg (by omega)]
/-- Once too great, always wrong. -/
theorem refZ_big (mk : ByteArray) : ∀ (l : List Int) (k : Nat) (a : Int), 24 < a → refZ mk l k a = false
  | [], k, a, h => by simp [refZ]; omega
  | z :: l, k, a, h => by unfold refZ; rw [if_pos (by omega)]
def marksFrom (mk : ByteArray) : Nat → Nat → Bool
  | 0, _ => true
  | n + 1, k => (decide (k = 0) || ((mk.get! (k - 1)).toNat == 44) || ((mk.get! (k - 1)).toNat == 45)) && marksFrom mk n (k + 1)
theorem refZ_eq (mk : ByteArray) : ∀ (l : List Int) (k : Nat) (a : Int), 0 ≤ a → a ≤ 24 → (0 < a ∨ l ≠ []) → refZ mk l k a = (okFrom l a && marksFrom mk l.length k)
  | [], k, a, h0, h1, h2 => by
    have : 0 < a := by rcases h2 with h | h; exact h; exact absurd rfl h
    simp [refZ, okFrom, marksFrom, h1, this]
  | z :: l, k, a, h0, h1, h2 => by
    unfold refZ
    by_cases c1 : z < 1 ∨ 24 < z ∨ 24 < a
    · rw [if_pos c1]
      simp only [okFrom]
      rw [if_pos (by omega)]
      rfl
    · rw [if_neg c1]
      by_cases c3 : 24 < a + z
      · have ho : okFrom (z :: l) a = false := by
          simp only [okFrom]
          rw [if_neg (by omega), if_pos c3]
        rw [ho, refZ_big mk l (k + 1) (a + z) c3]
        simp
      · rw [okFrom_step z l a (by omega) (by omega) (by omega)]
        simp only [List.length_cons, marksFrom]
        rw [refZ_eq mk l (k + 1) (a + z) (by omega) (by omega) (.inl (by omega))]
        by_cases c2 : 0 < k ∧ (mk.get! (k - 1)).toNat ≠ 44 ∧ (mk.get! (k - 1)).toNat ≠ 45
        · rw [if_pos c2]
          have e0 : decide (k = 0) = false := by simp; omega
          have e1 : ((mk.get! (k - 1)).toNat == 44) = false := by simp [c2.2.1]
          have e2 : ((mk.get! (k - 1)).toNat == 45) = false := by simp [c2.2.2]
          rw [e0, e1, e2]
          simp
        · rw [if_neg c2]
          have : (decide (k = 0) || ((mk.get! (k - 1)).toNat == 44) || ((mk.get! (k - 1)).toNat == 45)) = true := by
            simp only [Bool.or_eq_true, decide_eq_true_eq, beq_iff_eq]
            omega
          rw [this]
          simp
/-- All the marks are commas and dashes: byte by byte, and at the places that the document looks at. -/
theorem marksFrom_all (mk : ByteArray) : ∀ n k, 1 ≤ k → k - 1 + n = mk.size → marksFrom mk n k = (mk.data.toList.drop (k - 1)).all (fun b => b == 44 || b == 45)
  | 0, k, hk, h => by
    have : mk.data.toList.length ≤ k - 1 := by rw [← Lib.size_eq]; omega
    rw [List.drop_of_length_le this]
    rfl
  | n + 1, k, hk, h => by
    have hx : mk.data.toList[k - 1]? = some (mk.get! (k - 1)) := by
      have hd : k - 1 < mk.data.size := by show k - 1 < mk.size; omega
      rw [ByteArray.get!, getElem!_pos mk.data (k - 1) hd]
      simp [Array.getElem?_toList, hd]
    rw [drop_cons hx]
    unfold marksFrom
    rw [marksFrom_all mk n (k + 1) (by omega) (by omega), show k + 1 - 1 = k - 1 + 1 by omega]
    have e0 : decide (k = 0) = false := by simp; omega
    rw [e0, List.all_cons]
    have e1 : ∀ x : UInt8, (x.toNat == 44) = (x == 44) := fun x => by
      rw [Bool.eq_iff_iff, beq_iff_eq, beq_iff_eq]
      exact ⟨fun e => UInt8.toNat_inj.1 e, fun e => by rw [e]; rfl⟩
    have e2 : ∀ x : UInt8, (x.toNat == 45) = (x == 45) := fun x => by
      rw [Bool.eq_iff_iff, beq_iff_eq, beq_iff_eq]
      exact ⟨fun e => UInt8.toNat_inj.1 e, fun e => by rw [e]; rfl⟩
    rw [e1, e2]
    simp
theorem marks_all (mk : ByteArray) (n : Nat) (h : n = mk.size + 1) : marksFrom mk n 0 = marksOk mk := by
  subst h
  unfold marksFrom marksOk
  rw [marksFrom_all mk mk.size 1 (Nat.le_refl _) (by omega)]
  simp
/-- The document's answer on the sizes. -/
theorem refZ_sizes (zs : List Int) (mk : ByteArray) (h1 : zs ≠ []) (h2 : mk.size + 1 = zs.length) : refZ mk zs 0 0 = !sizesBad zs mk := by
  rw [refZ_eq mk zs 0 0 (by omega) (by omega) (.inr h1), marks_all mk zs.length h2.symm]
  unfold sizesBad okZ
  have : (mk.size + 1 == zs.length) = true := by simp [h2]
  rw [this]
  simp
theorem sizesBad_len (zs : List Int) (mk : ByteArray) (h : zs = [] ∨ mk.size + 1 ≠ zs.length) : sizesBad zs mk = true := by
  unfold sizesBad
  rcases h with rfl | h
  · simp [okZ, okFrom]
  · have : (mk.size + 1 == zs.length) = false := by simp [h]
    rw [this]
    simp
end Go.Proofs.YtbjgfjmknnbahaaGreatDoor

/- Plain Lean: what is read of a text is a right clue. -/
set_option linter.unusedVariables false
set_option linter.unusedSimpArgs false
namespace Go.Proofs.YtbjgfjmknnbahaaGreatDoor
open Go.RowKit

/-- A clue that is read: its words, and its sizes from between the brackets. -/
theorem parse_some {s : ByteArray} {ws : List ByteArray} {l : List Nat} {mk : ByteArray} {a : Nat} (h : parseF s = (ws, l, mk, a, 0)) :
    a = 0 ∧ ∃ x y, sizesF x = some (l, mk) ∧ ws = keepW (wordsL y) ∧ 1 ≤ ws.length ∧ ws.length ≤ 12 ∧ y.size ≤ s.size := by
  unfold parseF parseL at h
  split at h
  · simp only [parseBad, Prod.mk.injEq] at h; omega
  · split at h
    · simp only [parseBad, Prod.mk.injEq] at h; omega
    · split at h
      · simp only [parseBad, Prod.mk.injEq] at h; omega
      · unfold parseTail at h
        split at h
        · simp only [parseBad, Prod.mk.injEq] at h; omega
        · rename_i l' mk' hz
          unfold parseEnd at h
          split at h
          · simp only [parseBad, Prod.mk.injEq] at h; omega
          · simp only [Prod.mk.injEq] at h
            obtain ⟨h1, h2, h3, h4, _⟩ := h
            subst h1 h2 h3
            exact ⟨h4.symm, _, _, hz, rfl, by omega, by omega, by rw [ByteArray.size_extract]; omega⟩
theorem mach_right (s : ByteArray) : ∀ (f i : Nat) (l : List Nat) (mk : ByteArray) (n d sm : Nat) (L : List Nat) (M : ByteArray), mach s f i l mk n d sm = some (L, M) → (∀ x ∈ l, 1 ≤ x ∧ x ≤ 24) → sm = l.sum → mk.size = l.length → marksOk mk = true →
    (∀ x ∈ L, 1 ≤ x ∧ x ≤ 24) ∧ L.sum ≤ 24 ∧ L ≠ [] ∧ M.size + 1 = L.length ∧ marksOk M = true := by
  have fin : ∀ (l : List Nat) (mk : ByteArray) (n sm : Nat) (L : List Nat) (M : ByteArray), machEnd l mk n sm = some (L, M) → (∀ x ∈ l, 1 ≤ x ∧ x ≤ 24) → sm = l.sum → mk.size = l.length → marksOk mk = true →
      (∀ x ∈ L, 1 ≤ x ∧ x ≤ 24) ∧ L.sum ≤ 24 ∧ L ≠ [] ∧ M.size + 1 = L.length ∧ marksOk M = true := by
    intro l mk n sm L M h hl hs hm hk
    unfold machEnd at h
    split at h
    · cases h
    · split at h
      · injection h with h
        injection h with h1 h2
        subst h1 h2
        refine ⟨fun x hx => ?_, ?_, by simp, by simp [hm], hk⟩
        · rcases List.mem_append.1 hx with hx | hx
          · exact hl x hx
          · simp at hx; omega
        · rw [List.sum_append]; simp; omega
      · cases h
  intro f
  induction f with
  | zero => intro i l mk n d sm L M h; exact fin l mk n sm L M h
  | succ f ih =>
    intro i l mk n d sm L M h hl hs hm hk
    unfold mach at h
    split at h
    · rename_i hi
      split at h
      · split at h
        · cases h
        · exact ih _ _ _ _ _ _ _ _ h hl hs hm hk
      · split at h
        · cases h
        · rename_i hb
          have hz : (s.extract i (i + 1)).size = 1 := by rw [ByteArray.size_extract]; omega
          refine ih _ _ _ _ _ _ _ _ h (fun x hx => ?_) (by rw [List.sum_append]; simp [hs]) (by rw [ByteArray.size_append, hz, List.length_append]; simp [hm]) ?_
          · rcases List.mem_append.1 hx with hx | hx
            · exact hl x hx
            · simp at hx; omega
          · unfold marksOk at hk ⊢
            rw [ByteArray.data_append, Array.toList_append, List.all_append, hk, Lib.extract_data]
            have hx : (s.data.toList.drop i).take (i + 1 - i) = [s.get! i] := by
              rw [List.drop_eq_getElem_cons (by rw [← Lib.size_eq]; exact hi), show i + 1 - i = 1 by omega]
              have := get_bang_list s i hi
              rw [List.getElem?_eq_getElem (by rw [← Lib.size_eq]; exact hi)] at this
              injection this with this
              simp [this]
            rw [hx]
            have hbb : (s.get! i).toNat = 44 ∨ (s.get! i).toNat = 45 := by omega
            simp only [Bool.true_and, List.all_cons, List.all_nil, Bool.and_true, Bool.or_eq_true, beq_iff_eq]
            rcases hbb with h1 | h1
            · left; rw [← UInt8.toNat_inj, h1]; rfl
            · right; rw [← UInt8.toNat_inj, h1]; rfl
    · exact fin l mk n sm L M h hl hs hm hk
theorem sizes_right {s : ByteArray} {l : List Nat} {mk : ByteArray} (h : sizesF s = some (l, mk)) : sizesBad (l.map Int.ofNat) mk = false ∧ l ≠ [] := by
  obtain ⟨h1, h2, h3, h4, h5⟩ := mach_right s _ _ _ _ _ _ _ _ _ h (by simp) rfl rfl rfl
  have hp : 0 < l.sum := by
    cases l with
    | nil => exact absurd rfl h3
    | cons x l => have := h1 x (by simp); rw [List.sum_cons]; omega
  have hok : okN l = true := (okN_iff l).2 ⟨h1, h2, hp⟩
  refine ⟨?_, h3⟩
  unfold sizesBad
  have : okZ (l.map Int.ofNat) = true := hok
  rw [this, h5, show (mk.size + 1 == (l.map Int.ofNat).length) = true by simp [h4]]
  rfl
theorem keep_right (y : ByteArray) (h1 : 1 ≤ (keepW (wordsL y)).length) (h2 : (keepW (wordsL y)).length ≤ 12) : wordsBad (keepW (wordsL y)) = false := by
  unfold wordsBad
  rw [decide_eq_false (by omega), Bool.false_or, List.any_eq_false]
  intro x hx
  obtain ⟨hx1, hx2⟩ := List.mem_filter.1 hx
  unfold oddT
  rw [solid_noBlank (wordsL_solid y x hx1).1, hx2]
  simp
/-- What is read is right. -/
theorem parse_right {s : ByteArray} {ws : List ByteArray} {l : List Nat} {mk : ByteArray} {a : Nat} (h : parseF s = (ws, l, mk, a, 0)) : checkF ws (l.map Int.ofNat) mk = 0 := by
  obtain ⟨_, x, y, h1, h2, h3, h4, _⟩ := parse_some h
  unfold checkF
  subst h2
  rw [keep_right y h3 h4, (sizes_right h1).1]
  rfl
theorem parse_fits {s : ByteArray} {ws : List ByteArray} {l : List Nat} {mk : ByteArray} {a : Nat} (h : parseF s = (ws, l, mk, a, 0)) : s.size ≤ 4294967296 := by
  unfold parseF parseL at h
  split at h
  · simp only [parseBad, Prod.mk.injEq] at h; omega
  · omega
theorem sum_length : ∀ l : List Nat, (∀ x ∈ l, 1 ≤ x) → l.length ≤ l.sum
  | [], _ => by simp
  | x :: l, h => by
    have := sum_length l (fun y hy => h y (List.mem_cons_of_mem _ hy))
    have := h x (by simp)
    rw [List.length_cons, List.sum_cons]
    omega
/-- How great what is told may be. -/
theorem parse_small {s : ByteArray} {ws : List ByteArray} {l : List Nat} {mk : ByteArray} {a x : Nat} (h : parseF s = (ws, l, mk, a, x)) : ws.length ≤ 12 ∧ l.length ≤ 24 ∧ mk.size ≤ 24 ∧ ∀ y ∈ ws, y.size ≤ s.size := by
  by_cases hx : x = 0
  · subst hx
    obtain ⟨_, p, q, h1, h2, h3, h4, h5⟩ := parse_some h
    obtain ⟨k1, k2, k3, k4, k5⟩ := mach_right p _ _ _ _ _ _ _ _ _ h1 (by simp) rfl rfl rfl
    have := sum_length l (fun x hx => (k1 x hx).1)
    refine ⟨h4, by omega, by omega, fun y hy => ?_⟩
    rw [h2] at hy
    have := wordsL_size q y (List.mem_filter.1 hy).1
    omega
  · have hb : ∀ c d, (ws, l, mk, a, x) = parseBad c d → ws.length ≤ 12 ∧ l.length ≤ 24 ∧ mk.size ≤ 24 ∧ ∀ y ∈ ws, y.size ≤ s.size := by
      intro c d e
      simp only [parseBad, Prod.mk.injEq] at e
      obtain ⟨rfl, rfl, rfl, _, _⟩ := e
      simp
    unfold parseF parseL at h
    split at h
    · exact hb _ _ h.symm
    · split at h
      · exact hb _ _ h.symm
      · split at h
        · exact hb _ _ h.symm
        · unfold parseTail at h
          split at h
          · exact hb _ _ h.symm
          · unfold parseEnd at h
            split at h
            · exact hb _ _ h.symm
            · simp only [Prod.mk.injEq] at h
              omega
end Go.Proofs.YtbjgfjmknnbahaaGreatDoor

/- Contracts: slices.IndexFunc, ContainsFunc at words, with clue.Check's predicate. -/
set_option linter.unusedVariables false
set_option linter.unusedSimpArgs false
namespace Go.Proofs.YtbjgfjmknnbahaaGreatDoor
open Go.RowKit

set_option maxHeartbeats 4000000 in
set_option maxRecDepth 100000 in
theorem IndexOdd_any (A : Option Addr) (n c : Nat) (ws : List ByteArray) (w : World) (ha : Rd w 1 A n (ws.map eS)) (hn : n ≤ 4294967296) (hz : ∀ x ∈ ws, x.size ≤ 4294967296) :
    Calls Tryz.prog 66 #[.slice A n c, .func (.func 39) #[] #[]] w fun e w' => e = .returned (.int .i64 (idxF oddW ws 0)) ∧ Below w.heap.size w w' := by
  have hl : ws.length = n := by have := ha.1; simpa using this
  obtain ⟨K, hK⟩ : ∃ K, idxF oddW ws 0 = K := ⟨_, rfl⟩
  rw [hK]
  have HK := Lib.hid hK
  have HZ := Lib.hid hz
  clear hK hz
  go_enter Tryz.func66, Tryz.ntmps66
  go_wp2_with fail
  go_loopw [8] (fun i wr => ∃ (k : Nat), i = .int .i64 k ∧ k ≤ n ∧ idxF oddW (ws.drop k) k = K ∧ Below w.heap.size w wr) (fun i _ => n - (intOf i).toNat)
  case atStart => exact ⟨0, rfl, Nat.zero_le _, HK.out, Below.refl _ _⟩
  case round =>
    obtain ⟨k, rfl, hk, hix, hbw⟩ := hrel
    by_cases hlt : k < n
    · obtain ⟨b, o, x, rfl, hx, hc⟩ := (ha.keep hbw).at1 hlt
      have hxz := HZ.out x (List.mem_of_getElem? hx)
      rw [drop_cons hx] at hix
      simp only [idxF] at hix
      unfold eS at hc
      cases hp : oddW x with
      | true =>
        rw [hp] at hix
        simp only [if_true] at hix
        have Hix := Lib.hid hix
        have hp2 : oddW x = true := hp
        clear hix hx hp
        go_wp2_with (go_at_call 39; refine (Odd_any x _ hxz).mono ?_; rintro e w2 ⟨rfl, hb2⟩)
        go_ret
        exact ⟨by rw [← Hix.out]; rfl, below_then hbw hbw.size hb2⟩
      | false =>
        rw [hp] at hix
        simp only [Bool.false_eq_true, if_false] at hix
        have Hix := Lib.hid hix
        have hp2 : oddW x = false := hp
        clear hix hx hp
        go_wp2_with (go_at_call 39; refine (Odd_any x _ hxz).mono ?_; rintro e w2 ⟨rfl, hb2⟩)
        go_roundw
        case rel => exact ⟨k + 1, by go_num, by omega, Hix.out, below_then hbw hbw.size hb2⟩
        case measure => simp [intOf] <;> omega
    · rw [List.drop_of_length_le (by omega)] at hix
      simp only [idxF] at hix
      have Hix := Lib.hid hix
      clear hix
      go_wp2
      go_ret
      exact ⟨by rw [← Hix.out]; rfl, hbw⟩
theorem idxF_any (p : ByteArray → Bool) : ∀ (l : List ByteArray) (k : Nat), decide (0 ≤ idxF p l k) = l.any p
  | [], k => by simp [idxF]
  | x :: l, k => by
    unfold idxF
    rw [List.any_cons]
    cases h : p x with
    | true => simp
    | false =>
      simp only [Bool.false_eq_true, if_false, Bool.false_or]
      exact idxF_any p l (k + 1)
set_option maxHeartbeats 1000000 in
set_option maxRecDepth 100000 in
theorem ContainsOdd_any (A : Option Addr) (n c : Nat) (ws : List ByteArray) (w : World) (ha : Rd w 1 A n (ws.map eS)) (hn : n ≤ 4294967296) (hz : ∀ x ∈ ws, x.size ≤ 4294967296) :
    Calls Tryz.prog 41 #[.slice A n c, .func (.func 39) #[] #[]] w fun e w' => e = .returned (.bool (ws.any oddW)) ∧ Below w.heap.size w w' := by
  have HI := Lib.hid (IndexOdd_any A n c ws w ha hn hz)
  have hx := idxF_any oddW ws 0
  generalize idxF oddW ws 0 = K at hx HI
  cases hb : ws.any oddW with
  | true =>
    rw [hb] at hx
    have hk : 0 ≤ K := of_decide_eq_true hx
    clear hx hb
    go_enter Tryz.func41, Tryz.ntmps41
    go_wp2_with (go_at_call 66; refine (HI.out).mono ?_; rintro e w2 ⟨rfl, hb2⟩)
    go_ret
    exact ⟨by simp [hk], hb2⟩
  | false =>
    rw [hb] at hx
    have hk : ¬ 0 ≤ K := of_decide_eq_false hx
    clear hx hb
    go_enter Tryz.func41, Tryz.ntmps41
    go_wp2_with (go_at_call 66; refine (HI.out).mono ?_; rintro e w2 ⟨rfl, hb2⟩)
    go_ret
    exact ⟨by simp; omega, hb2⟩
end Go.Proofs.YtbjgfjmknnbahaaGreatDoor
