/- Texts joined: Parse, Pieces, WordsP, CheckSpec. -/
import Derived.Test.YtbjgfjmknnbahaaGreatDoorR3
import Derived.Test.YtbjgfjmknnbahaaGreatDoorR5
import Derived.Test.YtbjgfjmknnbahaaGreatDoorR7
import Derived.Test.YtbjgfjmknnbahaaGreatDoorR8
import Derived.Test.YtbjgfjmknnbahaaGreatDoorR2
import Derived.Test.YtbjgfjmknnbahaaGreatDoorR4
/- Contract: clue.Parse. -/
set_option linter.unusedVariables false
set_option linter.unusedSimpArgs false
namespace Go.Proofs.YtbjgfjmknnbahaaGreatDoor
open Go.RowKit

theorem innerT_size (T : ByteArray) : (innerT T).size ≤ T.size := by
  unfold innerT
  rw [Lib.size_eq, Lib.size_eq]
  unfold Lib.trimSuffix
  split
  · simp
  · exact Nat.le_refl _
theorem CutSuffix_any (T : ByteArray) (w : World) (hs : T.size ≤ 4294967296) :
    Calls Tryz.prog 25 #[.string T, .string ⟨#[41]⟩] w fun e w' => e = .returned (.tuple #[.string (innerT T), .bool (closedT T)]) ∧ w = w' := by
  refine (Tryz.strings_CutSuffix T ⟨#[41]⟩ w (by omega)).mono ?_
  rintro e w' ⟨he, hw⟩
  exact ⟨he, hw.symm⟩
theorem LastIdx_any (s : ByteArray) (w : World) (hs : s.size ≤ 4294967296) :
    Calls Tryz.prog 28 #[.string s, .int .u8 40] w fun e w' => e = .returned (.int .i64 (Lib.lastIndexByte s 40)) ∧ w = w' := by
  refine (Tryz.strings_LastIndexByte s 40 (by omega) w).mono ?_
  rintro e w' ⟨he, hw⟩
  exact ⟨he, hw.symm⟩
theorem open_range (s : ByteArray) : Lib.lastIndexByte s 40 = -1 ∨ ∃ k : Nat, Lib.lastIndexByte s 40 = k ∧ k < s.size := by
  rcases Lib.lastIndexByte_spec s 40 with ⟨h, _⟩ | ⟨i, h1, h2, _⟩
  · exact .inl h
  · exact .inr ⟨i, h2, h1⟩

set_option maxHeartbeats 8000000 in
set_option maxRecDepth 100000 in
theorem Parse_any (s : ByteArray) (w : World) (hv : Vars w) :
    Calls Tryz.prog 8 #[.string s] w fun e w' => PTold w w' (parseF s) e := by
  rw [← parseG_eq]
  obtain ⟨R, hR⟩ : ∃ R, parseG s = R := ⟨_, rfl⟩
  rw [hR]
  unfold parseG at hR
  by_cases hbig : 65536 < s.size
  · rw [if_pos hbig] at hR
    have HR := Lib.hid hR
    clear hR hv
    go_enter Tryz.func8, Tryz.ntmps8
    go_wp2
    refine bodyPost_ret (results_cell_row3 rfl _ _ w.heap.size 26 _ (0, 0) _ rfl (heap_alloc_new w _) Tryz.underlying26 rfl rfl) rfl ?_
    exact told_bad ((Below.refl _ _).alloc (Nat.le_refl _) _) HR.out rfl rfl
  rw [if_neg hbig] at hR
  have hsz : s.size ≤ 65536 := by omega
  have hTs : (Lib.trimRightF blankB s).size ≤ s.size := by show (s.extract 0 _).size ≤ _; rw [ByteArray.size_extract]; omega
  have HTr := Lib.hid (fun W (h : Vars W) => Tryz.strings_TrimRightFunc_grows 27 #[] enter_blank blankB s W (by omega) h.tabs (blank_grows W))
  generalize Lib.trimRightF blankB s = T at hR hTs HTr
  have HCt := Lib.hid (fun W => CutSuffix_any T W (by omega))
  have hIs := innerT_size T
  generalize innerT T = In at hR hIs HCt
  have HL := Lib.hid (fun W => LastIdx_any In W (by omega))
  have hor := open_range In
  generalize Lib.lastIndexByte In 40 = o at hR HL hor
  have hg0 := heap_alloc_new w (.cells #[.slice none 0 0, .slice none 0 0, .string ⟨#[]⟩] 26)
  have hb0 : Below w.heap.size w (w.alloc (.cells #[.slice none 0 0, .slice none 0 0, .string ⟨#[]⟩] 26)) := (Below.refl _ _).alloc (Nat.le_refl _) _
  have hv0 := hv.keep hb0
  clear hv hbig
  cases hcl : closedT T with
  | false =>
    rw [hcl] at hR HCt
    rw [if_pos (.inl rfl)] at hR
    have HR := Lib.hid hR
    clear hR hor hcl
    go_enter Tryz.func8, Tryz.ntmps8
    go_wp2_with (first
      | (go_at_call 26; refine (HTr.out _ hv0).mono ?_; rintro e w1 ⟨rfl, hb1⟩; have h2 := (hb1.block _ (heap_lt hg0)).trans hg0; have hbw := below_then hb0 hb0.size hb1)
      | (go_at_call 25; refine (HCt.out _).mono ?_; rintro e w' ⟨rfl, rfl⟩)
      | (go_at_call 28; refine (HL.out _).mono ?_; rintro e w' ⟨rfl, rfl⟩)
      | (refine wpList_store_row rfl 26 _ _ rfl w.heap.size #[.slice none 0 0, .slice none 0 0, .string ⟨#[]⟩] rfl rfl 26 _ h2 rfl rfl (one3 _ _ _ _ _ _ _) ?_))
    (try simp only [Exit.inBlock, Exit.then]); refine bodyPost_ret (results_cell_row3 rfl _ _ w.heap.size 26 _ (0, 0) _ rfl (setRow_heap _ _ _ _ _ _ h2) Tryz.underlying26 rfl rfl) rfl ?_
    exact told_bad (below_setRow hbw (Nat.le_refl _) _) HR.out rfl rfl
  | true =>
    rw [hcl] at hR HCt
    rcases hor with rfl | ⟨k, rfl, hk⟩
    · rw [if_pos (.inr (by omega))] at hR
      have HR := Lib.hid hR
      clear hR hcl
      go_enter Tryz.func8, Tryz.ntmps8
      go_wp2_with (first
        | (go_at_call 26; refine (HTr.out _ hv0).mono ?_; rintro e w1 ⟨rfl, hb1⟩; have h2 := (hb1.block _ (heap_lt hg0)).trans hg0; have hbw := below_then hb0 hb0.size hb1)
        | (go_at_call 25; refine (HCt.out _).mono ?_; rintro e w' ⟨rfl, rfl⟩)
        | (go_at_call 28; refine (HL.out _).mono ?_; rintro e w' ⟨rfl, rfl⟩)
        | (refine wpList_store_row rfl 26 _ _ rfl w.heap.size #[.slice none 0 0, .slice none 0 0, .string ⟨#[]⟩] rfl rfl 26 _ h2 rfl rfl (one3 _ _ _ _ _ _ _) ?_))
      (try simp only [Exit.inBlock, Exit.then]); refine bodyPost_ret (results_cell_row3 rfl _ _ w.heap.size 26 _ (0, 0) _ rfl (setRow_heap _ _ _ _ _ _ h2) Tryz.underlying26 rfl rfl) rfl ?_
      exact told_bad (below_setRow hbw (Nat.le_refl _) _) HR.out rfl rfl
    · rw [if_neg (by simp), Int.toNat_natCast] at hR
      have HS := Lib.hid (fun W (h : Vars W) => Sizes_any (In.extract (k + 1) In.size) W (by rw [ByteArray.size_extract]; omega) h)
      generalize sizesF (In.extract (k + 1) In.size) = Z at hR HS
      clear hcl
      cases Z with
      | none =>
        simp only at hR
        have HR := Lib.hid hR
        clear hR
        go_enter Tryz.func8, Tryz.ntmps8
        go_wp2_with (first
          | (go_at_call 26; refine (HTr.out _ hv0).mono ?_; rintro e w1 ⟨rfl, hb1⟩; have h2 := (hb1.block _ (heap_lt hg0)).trans hg0; have hbw := below_then hb0 hb0.size hb1; have hv1 := hv0.keep hb1)
          | (go_at_call 25; refine (HCt.out _).mono ?_; rintro e w' ⟨rfl, rfl⟩)
          | (go_at_call 28; refine (HL.out _).mono ?_; rintro e w' ⟨rfl, rfl⟩)
          | (go_at_call 29; refine (HS.out _ hv1).mono ?_; rintro e w3 ⟨hb3, ⟨l, mk, A, c, hx, _⟩ | ⟨_, v, mk, rfl⟩⟩; first | (exact absurd hx (by intro h; cases h)) | skip)
          | (refine wpList_store_row rfl 26 _ _ rfl w.heap.size #[.slice none 0 0, .slice none 0 0, .string ⟨#[]⟩] rfl rfl 26 _ ((hb3.block _ (heap_lt h2)).trans h2) rfl rfl (one3 _ _ _ _ _ _ _) ?_))
        (try simp only [Exit.inBlock, Exit.then]); refine bodyPost_ret (results_cell_row3 rfl _ _ w.heap.size 26 _ (0, 0) _ rfl (setRow_heap _ _ _ _ _ _ ((hb3.block _ (heap_lt h2)).trans h2)) Tryz.underlying26 rfl rfl) rfl ?_
        exact told_bad (below_setRow (below_then hbw hbw.size hb3) (Nat.le_refl _) _) HR.out rfl rfl
      | some q =>
        obtain ⟨l, mk⟩ := q
        simp only at hR
        have hwl := wordsL_length (s.extract 0 k)
        have hwz := wordsL_size (s.extract 0 k)
        have hxs : (s.extract 0 k).size = k := by rw [ByteArray.size_extract]; omega
        rw [hxs] at hwl hwz
        have HW := Lib.hid (fun W => Words_any (s.extract 0 k) W (by omega))
        generalize wordsL (s.extract 0 k) = ws at hR HW hwl hwz
        have HD := Lib.hid (fun A c B W (ha : W.ownsRow B 9 1 (.slice A ws.length c) ws.length (ws.map eS)) (hB : B ≤ W.heap.size) (hnc : ws.length ≤ c) => Delete_any A ws.length c B ws W ha hB (by omega) hnc (fun x hx => Nat.le_trans (hwz x hx) (by omega)))
        clear hwz hxs
        have hkl := keepW_le ws
        generalize keepW ws = kw at hR HD hkl
        unfold parseEnd at hR
        have HS2 := Lib.hid (fun W (h : Vars W) => show Calls Tryz.prog 29 #[.string (In.extract (k + 1) In.size)] W (fun e w' => ∃ A c, e = .returned (.tuple #[.slice A l.length c, .string mk, .bool true]) ∧ l.length ≤ c ∧ c ≤ maxLen ∧ w'.ownsRow W.heap.size 3 1 (.slice A l.length c) l.length (l.map eI) ∧ Rd w' 1 A l.length (l.map eI) ∧ Below W.heap.size W w') from by
          refine (HS.out W h).mono ?_
          rintro e w' ⟨hb, ⟨l', mk', A, c, hx, he, k1, k2, k3, k4⟩ | ⟨hx, _⟩⟩
          · injection hx with hx
            injection hx with hx1 hx2
            subst hx1; subst hx2
            exact ⟨A, c, he, k1, k2, k3, k4, hb⟩
          · cases hx)
        clear HS
        by_cases hbad : kw.length < 1 ∨ 12 < kw.length
        · rw [if_pos hbad] at hR
          have HR := Lib.hid hR
          clear hR
          rcases hbad with hbd | hbd
          all_goals (
            go_enter Tryz.func8, Tryz.ntmps8
            go_wp2_with (first
            | (go_at_call 26; refine (HTr.out _ hv0).mono ?_; rintro e w1 ⟨rfl, hb1⟩; have h2 := (hb1.block _ (heap_lt hg0)).trans hg0; have hbw := below_then hb0 hb0.size hb1; have hv1 := hv0.keep hb1)
            | (go_at_call 25; refine (HCt.out _).mono ?_; rintro e w' ⟨rfl, rfl⟩)
            | (go_at_call 28; refine (HL.out _).mono ?_; rintro e w' ⟨rfl, rfl⟩)
            | (go_at_call 29; refine (HS2.out _ hv1).mono ?_; rintro e w3 ⟨A3, c3, rfl, q1, q2, hown3, hrd3, hb3⟩; have h3 := (hb3.block _ (heap_lt h2)).trans h2; have hbw3 := below_then hbw hbw.size hb3)
            | (go_at_call 20; refine (HW.out _).mono ?_; rintro e w4 ⟨A4, c4, rfl, g1, g2, hown4, hrd4, hb4⟩)
            | (go_at_call 30; refine (HD.out A4 c4 w3.heap.size _ hown4 hb4.size g1).mono ?_; rintro e w5 ⟨rfl, hrd5, hb5⟩; have hb45 := hb4.trans hb5; have h5 := (hb45.block _ (heap_lt h3)).trans h3; have hbw5 := below_then hbw3 hbw3.size hb45)
            | (refine wpList_store_row rfl 26 _ _ rfl w.heap.size #[.slice none 0 0, .slice none 0 0, .string ⟨#[]⟩] rfl rfl 26 _ h5 rfl rfl (one3 _ _ _ _ _ _ _) ?_))
            (try simp only [Exit.inBlock, Exit.then]); refine bodyPost_ret (results_cell_row3 rfl _ _ w.heap.size 26 _ (0, 0) _ rfl (setRow_heap _ _ _ _ _ _ h5) Tryz.underlying26 rfl rfl) rfl ?_
            exact told_bad (below_setRow hbw5 (Nat.le_refl _) _) HR.out rfl rfl)
        · rw [if_neg hbad] at hR
          have HR := Lib.hid hR
          have hk1 : 1 ≤ kw.length := by omega
          have hk2 : kw.length ≤ 12 := by omega
          clear hR hbad
          go_enter Tryz.func8, Tryz.ntmps8
          go_wp2_with (first
            | (go_at_call 26; refine (HTr.out _ hv0).mono ?_; rintro e w1 ⟨rfl, hb1⟩; have h2 := (hb1.block _ (heap_lt hg0)).trans hg0; have hbw := below_then hb0 hb0.size hb1; have hv1 := hv0.keep hb1)
            | (go_at_call 25; refine (HCt.out _).mono ?_; rintro e w' ⟨rfl, rfl⟩)
            | (go_at_call 28; refine (HL.out _).mono ?_; rintro e w' ⟨rfl, rfl⟩)
            | (go_at_call 29; refine (HS2.out _ hv1).mono ?_; rintro e w3 ⟨A3, c3, rfl, q1, q2, hown3, hrd3, hb3⟩; have h3 := (hb3.block _ (heap_lt h2)).trans h2; have hbw3 := below_then hbw hbw.size hb3)
            | (go_at_call 20; refine (HW.out _).mono ?_; rintro e w4 ⟨A4, c4, rfl, g1, g2, hown4, hrd4, hb4⟩)
            | (go_at_call 30; refine (HD.out A4 c4 w3.heap.size _ hown4 hb4.size g1).mono ?_; rintro e w5 ⟨rfl, hrd5, hb5⟩; have hb45 := hb4.trans hb5; have h5 := (hb45.block _ (heap_lt h3)).trans h3; have hbw5 := below_then hbw3 hbw3.size hb45)
            | (refine wpList_store_row rfl 26 _ _ rfl w.heap.size #[.slice A4 kw.length c4, .slice A3 l.length c3, .string mk] rfl rfl 26 _ h5 rfl rfl (one3 _ _ _ _ _ _ _) ?_))
          (try simp only [Exit.inBlock, Exit.then]); refine bodyPost_ret (results_cell_row3 rfl _ _ w.heap.size 26 _ (0, 0) _ rfl (setRow_heap _ _ _ _ _ _ h5) Tryz.underlying26 rfl rfl) rfl ?_
          refine told_ok (below_setRow hbw5 (Nat.le_refl _) _) HR.out ?_
          have hA4 : ∀ b o, A4 = some ⟨b, o, none⟩ → b ≠ w.heap.size := fun b o e => by
            subst e
            have e3 := own_block hown4
            have := hbw3.size
            have := heap_lt h2
            have := hb3.size
            omega
          have hA3 : ∀ b o, A3 = some ⟨b, o, none⟩ → b ≠ w.heap.size := fun b o e => by
            subst e
            have e3 := own_block hown3
            have := heap_lt h2
            omega
          exact ⟨_, _, _, _, _, _, rfl, hrd5.apart hA4 ((Apart.refl _ _).setRow _), by rw [mapZ]; exact (hrd3.keep hb45).apart hA3 ((Apart.refl _ _).setRow _), by omega, q1, g2, q2, rfl, by simp⟩
end Go.Proofs.YtbjgfjmknnbahaaGreatDoor

/- Plain Lean: a text as its runes, each with its bytes. -/
set_option linter.unusedVariables false
set_option linter.unusedSimpArgs false
namespace Go.Proofs.YtbjgfjmknnbahaaGreatDoor
open Go.RowKit

set_option maxRecDepth 100000 in
set_option maxHeartbeats 4000000 in
/-- Fewer bytes, as long as the rune's own are there. -/
theorem decodeN_less (n n' b0 b1 b2 b3 c1 c2 c3 : Nat) (hn : n' ≤ n) (hw : (Lib.decodeN n b0 b1 b2 b3).2 ≤ n') (e1 : 1 < n' → c1 = b1) (e2 : 2 < n' → c2 = b2) (e3 : 3 < n' → c3 = b3) : Lib.decodeN n' b0 c1 c2 c3 = Lib.decodeN n b0 b1 b2 b3 := by
  rcases (show n' ≤ 1 ∨ n' = 2 ∨ n' = 3 ∨ 4 ≤ n' by omega) with h | rfl | rfl | h
  · clear e1 e2 e3
    unfold Lib.decodeN at hw ⊢
    repeat' split at hw
    all_goals (repeat' split)
    all_goals first | rfl | (exfalso; simp only at hw; omega)
  · have e1 := e1 (by omega)
    subst e1
    clear e2 e3
    unfold Lib.decodeN at hw ⊢
    repeat' split at hw
    all_goals (repeat' split)
    all_goals first | rfl | (exfalso; simp only at hw; omega)
  · have e1 := e1 (by omega)
    have e2 := e2 (by omega)
    subst e1 e2
    clear e3
    unfold Lib.decodeN at hw ⊢
    repeat' split at hw
    all_goals (repeat' split)
    all_goals first | rfl | (exfalso; simp only at hw; omega)
  · have e1 := e1 (by omega)
    have e2 := e2 (by omega)
    have e3 := e3 (by omega)
    subst e1 e2 e3
    have a1 : (1 < n') = (1 < n) := propext ⟨fun _ => by omega, fun _ => by omega⟩
    have a2 : (2 < n') = (2 < n) := propext ⟨fun _ => by omega, fun _ => by omega⟩
    have a3 : (3 < n') = (3 < n) := propext ⟨fun _ => by omega, fun _ => by omega⟩
    unfold Lib.decodeN
    simp only [a1, a2, a3]
set_option maxRecDepth 100000 in
set_option maxHeartbeats 4000000 in
/-- More bytes, where the first of them is no continuation byte. -/
theorem decodeN_open (n n' b0 b1 b2 b3 c1 c2 c3 : Nat) (h1 : 1 ≤ n) (hn : n ≤ n') (e1 : 1 < n → c1 = b1) (e2 : 2 < n → c2 = b2) (e3 : 3 < n → c3 = b3)
    (o1 : n = 1 → n < n' → c1 / 64 ≠ 2) (o2 : n = 2 → n < n' → c2 / 64 ≠ 2) (o3 : n = 3 → n < n' → c3 / 64 ≠ 2) : Lib.decodeN n' b0 c1 c2 c3 = Lib.decodeN n b0 b1 b2 b3 := by
  rcases (show n = 1 ∨ n = 2 ∨ n = 3 ∨ 4 ≤ n by omega) with rfl | rfl | rfl | h
  · have o1 := o1 rfl
    clear e1 e2 e3 o2 o3
    unfold Lib.decodeN
    repeat' split
    all_goals first | rfl | (exfalso; omega)
  · have e1 := e1 (by omega)
    have o2 := o2 rfl
    subst e1
    clear e2 e3 o1 o3
    unfold Lib.decodeN
    repeat' split
    all_goals first | rfl | (exfalso; omega)
  · have e1 := e1 (by omega)
    have e2 := e2 (by omega)
    have o3 := o3 rfl
    subst e1 e2
    clear e3 o1 o2
    unfold Lib.decodeN
    repeat' split
    all_goals first | rfl | (exfalso; omega)
  · have e1 := e1 (by omega)
    have e2 := e2 (by omega)
    have e3 := e3 (by omega)
    subst e1 e2 e3
    have a1 : (1 < n') = (1 < n) := propext ⟨fun _ => by omega, fun _ => by omega⟩
    have a2 : (2 < n') = (2 < n) := propext ⟨fun _ => by omega, fun _ => by omega⟩
    have a3 : (3 < n') = (3 < n) := propext ⟨fun _ => by omega, fun _ => by omega⟩
    unfold Lib.decodeN
    simp only [a1, a2, a3]
theorem bang_extract (s : ByteArray) (a b x : Nat) (hb : b ≤ s.size) (h : a + x < b) : (s.extract a b).get! x = s.get! (a + x) := by
  have h1 : x < (s.extract a b).data.size := by show x < (s.extract a b).size; rw [ByteArray.size_extract]; omega
  have h2 : a + x < s.data.size := by show a + x < s.size; omega
  show (s.extract a b).data[x]! = s.data[a + x]!
  rw [getElem!_pos (s.extract a b).data x h1, getElem!_pos s.data (a + x) h2]
  exact ByteArray.getElem_extract (b := s) (start := a) (stop := b) (i := x) (h := h1)
theorem bang_left (a b : ByteArray) (x : Nat) (h : x < a.size) : (a ++ b).get! x = a.get! x := by
  have h1 : x < (a ++ b).data.size := by show x < (a ++ b).size; rw [ByteArray.size_append]; omega
  have h2 : x < a.data.size := h
  show (a ++ b).data[x]! = a.data[x]!
  rw [getElem!_pos (a ++ b).data x h1, getElem!_pos a.data x h2]
  exact ByteArray.getElem_append_left h
theorem bang_right (a b : ByteArray) (x : Nat) (h : x < b.size) : (a ++ b).get! (a.size + x) = b.get! x := by
  have h1 : a.size + x < (a ++ b).data.size := by show a.size + x < (a ++ b).size; rw [ByteArray.size_append]; omega
  have h2 : x < b.data.size := h
  show (a ++ b).data[a.size + x]! = b.data[x]!
  rw [getElem!_pos (a ++ b).data _ h1, getElem!_pos b.data x h2]
  have := ByteArray.getElem_append_right (a := a) (b := b) (i := a.size + x) (hle := by omega) (h := h1)
  simp only [Nat.add_sub_cancel_left] at this
  exact this
theorem decode_extract (s : ByteArray) (a b p : Nat) (hb : b ≤ s.size) (hp : a + p < b) (h : a + p + (Utf8.decode s (a + p)).2 ≤ b) : Utf8.decode (s.extract a b) p = Utf8.decode s (a + p) := by
  rw [Lib.decode_at] at h
  rw [Lib.decode_at, Lib.decode_at]
  have hsz : (s.extract a b).size = b - a := by rw [ByteArray.size_extract]; omega
  rw [hsz, bang_extract s a b p hb hp]
  refine decodeN_less _ _ _ _ _ _ _ _ _ (by omega) (by omega) (fun h => ?_) (fun h => ?_) (fun h => ?_)
  · rw [bang_extract s a b (p + 1) hb (by omega), Nat.add_assoc]
  · rw [bang_extract s a b (p + 2) hb (by omega), Nat.add_assoc]
  · rw [bang_extract s a b (p + 3) hb (by omega), Nat.add_assoc]
/-- A text that may follow another without turning its last rune. -/
def Starts (b : ByteArray) : Prop := b.size = 0 ∨ (b.get! 0).toNat / 64 ≠ 2
theorem decode_left (a b : ByteArray) (p : Nat) (hp : p < a.size) (hb : Starts b) : Utf8.decode (a ++ b) p = Utf8.decode a p := by
  rw [Lib.decode_at, Lib.decode_at, bang_left a b p hp, ByteArray.size_append]
  have ho : ∀ k, a.size - p = k → a.size - p < a.size + b.size - p → ((a ++ b).get! (p + k)).toNat / 64 ≠ 2 := by
    intro k hk hlt
    rcases hb with h0 | h0
    · omega
    · have := bang_right a b 0 (by omega)
      rw [show p + k = a.size + 0 by omega, this]
      exact h0
  exact decodeN_open _ _ _ _ _ _ _ _ _ (by omega) (by omega) (fun h => by rw [bang_left a b _ (by omega)]) (fun h => by rw [bang_left a b _ (by omega)]) (fun h => by rw [bang_left a b _ (by omega)]) (ho 1) (ho 2) (ho 3)
theorem decode_right (a b : ByteArray) (p : Nat) (hp : p < b.size) : Utf8.decode (a ++ b) (a.size + p) = Utf8.decode b p := by
  have hin := width_in (a ++ b) (a.size + p) (by rw [ByteArray.size_append]; omega)
  have hx : (a ++ b).extract a.size (a ++ b).size = b := by
    rw [ByteArray.size_append]
    exact ByteArray.extract_append_eq_right rfl (by simp)
  have := decode_extract (a ++ b) a.size (a ++ b).size p (Nat.le_refl _) (by rw [ByteArray.size_append]; omega) hin
  rw [hx] at this
  exact this.symm

/-- The runes, each with its bytes. -/
def piecesF (s : ByteArray) : Nat → Nat → List (Nat × ByteArray)
  | 0, _ => []
  | f + 1, pos => if pos < s.size then ((Utf8.decode s pos).1, s.extract pos (pos + (Utf8.decode s pos).2)) :: piecesF s f (pos + (Utf8.decode s pos).2) else []
def pieces (s : ByteArray) : List (Nat × ByteArray) := piecesF s s.size 0
def glue : List (Nat × ByteArray) → ByteArray
  | [] => ByteArray.empty
  | x :: l => x.2 ++ glue l
theorem glue_append (a b : List (Nat × ByteArray)) : glue (a ++ b) = glue a ++ glue b := by
  induction a with
  | nil => simp [glue]
  | cons x l ih => simp [glue, ih, ByteArray.append_assoc]
theorem piecesF_end (s : ByteArray) (f pos : Nat) (h : ¬ pos < s.size) : piecesF s f pos = [] := by
  cases f with
  | zero => rfl
  | succ f => simp [piecesF, h]
theorem piecesF_step (s : ByteArray) (f pos : Nat) (h : pos < s.size) : piecesF s (f + 1) pos = ((Utf8.decode s pos).1, s.extract pos (pos + (Utf8.decode s pos).2)) :: piecesF s f (pos + (Utf8.decode s pos).2) := by
  rw [piecesF, if_pos h]
theorem piecesF_fuel (s : ByteArray) : ∀ (f g pos : Nat), s.size ≤ pos + f → s.size ≤ pos + g → piecesF s f pos = piecesF s g pos
  | 0, g, pos, h, _ => by rw [piecesF_end s 0 pos (by omega), piecesF_end s g pos (by omega)]
  | f + 1, 0, pos, _, h => by rw [piecesF_end s 0 pos (by omega), piecesF_end s _ pos (by omega)]
  | f + 1, g + 1, pos, h1, h2 => by
    unfold piecesF
    by_cases hp : pos < s.size
    · have := width_pos s pos hp
      rw [if_pos hp, if_pos hp, piecesF_fuel s f g _ (by omega) (by omega)]
    · rw [if_neg hp, if_neg hp]
theorem piecesF_runes (s : ByteArray) : ∀ (f pos : Nat), (piecesF s f pos).map (·.1) = (seqFrom s f pos).map (·.2)
  | 0, _ => rfl
  | f + 1, pos => by
    unfold piecesF seqFrom
    split
    · simp [piecesF_runes s f]
    · rfl
theorem pieces_runes (s : ByteArray) : (pieces s).map (·.1) = runes s := piecesF_runes s s.size 0
theorem extract_join (s : ByteArray) (a b c : Nat) (h1 : a ≤ b) (h2 : b ≤ c) : s.extract a b ++ s.extract b c = s.extract a c := by
  rw [ByteArray.extract_append_extract, Nat.min_eq_left h1, Nat.max_eq_right h2]
theorem piecesF_glue (s : ByteArray) : ∀ (f pos : Nat), s.size ≤ pos + f → pos ≤ s.size → glue (piecesF s f pos) = s.extract pos s.size
  | 0, pos, h, hp => by
    obtain rfl : pos = s.size := by omega
    simp [piecesF, glue]
  | f + 1, pos, h, hp => by
    unfold piecesF
    by_cases hl : pos < s.size
    · have hw := width_pos s pos hl
      have hi := width_in s pos hl
      rw [if_pos hl]
      simp only [glue]
      rw [piecesF_glue s f _ (by omega) hi]
      exact extract_join s _ _ _ (by omega) hi
    · rw [if_neg hl]
      obtain rfl : pos = s.size := by omega
      simp [glue]
theorem pieces_glue (s : ByteArray) : glue (pieces s) = s := by
  unfold pieces
  rw [piecesF_glue s s.size 0 (by omega) (Nat.zero_le _)]
  exact ByteArray.extract_zero_size
/-- Behind a text that stands ahead. -/
theorem piecesF_right (a b : ByteArray) : ∀ (f pos : Nat), piecesF (a ++ b) f (a.size + pos) = piecesF b f pos
  | 0, _ => rfl
  | f + 1, pos => by
    unfold piecesF
    by_cases hl : pos < b.size
    · have hi := width_in b pos hl
      rw [if_pos hl, if_pos (by rw [ByteArray.size_append]; omega), decode_right a b pos hl, Nat.add_assoc, piecesF_right a b f]
      congr 2
      have : (a ++ b).extract (a.size + pos) (a.size + (pos + (Utf8.decode b pos).2)) = b.extract pos (pos + (Utf8.decode b pos).2) := by
        rw [ByteArray.extract_append]
        rw [ByteArray.extract_eq_empty_iff.2 (by omega), ByteArray.empty_append]
        congr 1 <;> omega
      exact this
    · rw [if_neg hl, if_neg (by rw [ByteArray.size_append]; omega)]
theorem piecesF_left (a b : ByteArray) (hb : Starts b) : ∀ (f pos : Nat), a.size ≤ pos + f → pos ≤ a.size → piecesF (a ++ b) (f + b.size) pos = piecesF a f pos ++ pieces b
  | 0, pos, h, hp => by
    obtain rfl : pos = a.size := by omega
    have := piecesF_right a b b.size 0
    rw [Nat.add_zero] at this
    rw [Nat.zero_add, this]
    rfl
  | f + 1, pos, h, hp => by
    by_cases hl : pos < a.size
    · have hw := width_pos a pos hl
      have hi := width_in a pos hl
      rw [show f + 1 + b.size = (f + b.size) + 1 by omega]
      unfold piecesF
      rw [if_pos hl, if_pos (by rw [ByteArray.size_append]; omega), decode_left a b pos hl hb, piecesF_left a b hb f _ (by omega) hi, List.cons_append]
      congr 2
      rw [ByteArray.extract_append]
      have : b.extract (pos - a.size) (pos + (Utf8.decode a pos).2 - a.size) = ByteArray.empty := by rw [ByteArray.extract_eq_empty_iff]; omega
      rw [this, ByteArray.append_empty]
    · obtain rfl : pos = a.size := by omega
      rw [piecesF_end a _ _ hl, List.nil_append]
      have := piecesF_right a b (f + 1 + b.size) 0
      rw [Nat.add_zero a.size] at this
      rw [this]
      exact piecesF_fuel b _ _ 0 (by omega) (by omega)
theorem pieces_append (a b : ByteArray) (hb : Starts b) : pieces (a ++ b) = pieces a ++ pieces b := by
  unfold pieces
  rw [ByteArray.size_append]
  exact piecesF_left a b hb a.size 0 (by omega) (Nat.zero_le _)
theorem runes_append (a b : ByteArray) (hb : Starts b) : runes (a ++ b) = runes a ++ runes b := by
  rw [← pieces_runes, ← pieces_runes, ← pieces_runes, pieces_append a b hb, List.map_append]
theorem pieces_nil : pieces ByteArray.empty = [] := rfl
/-- One rune of its own. -/
theorem pieces_one (x : ByteArray) (r : Nat) (h0 : 0 < x.size) (h : Utf8.decode x 0 = (r, x.size)) : pieces x = [(r, x)] := by
  unfold pieces
  obtain ⟨n, hn⟩ : ∃ n, x.size = n + 1 := ⟨x.size - 1, by omega⟩
  rw [hn]
  unfold piecesF
  rw [if_pos (by omega), h, piecesF_end x _ _ (by simp)]
  simp only [Nat.zero_add]
  rw [ByteArray.extract_zero_size]
theorem pieces_byte (x : ByteArray) (h0 : x.size = 1) (h : (x.get! 0).toNat < 128) : pieces x = [((x.get! 0).toNat, x)] := by
  refine pieces_one x _ (by omega) ?_
  rw [decode_lo x 0 h, h0]

/-! Pieces that a text of theirs is read as. -/
def Good (ps : List (Nat × ByteArray)) : Prop := pieces (glue ps) = ps
theorem good_pieces (s : ByteArray) : Good (pieces s) := by unfold Good; rw [pieces_glue]
/-- What stands ahead of what is not empty has a first rune. -/
theorem pieces_cons (s : ByteArray) (h : 0 < s.size) : pieces s = ((Utf8.decode s 0).1, s.extract 0 (Utf8.decode s 0).2) :: pieces (s.extract (Utf8.decode s 0).2 s.size) := by
  have hw := width_pos s 0 h
  have hi := width_in s 0 h
  rw [Nat.zero_add] at hi
  have hs : s.extract 0 (Utf8.decode s 0).2 ++ s.extract (Utf8.decode s 0).2 s.size = s := by
    rw [extract_join s _ _ _ (Nat.zero_le _) hi]
    exact ByteArray.extract_zero_size
  obtain ⟨n, hn⟩ : ∃ n, s.size = n + 1 := ⟨s.size - 1, by omega⟩
  have hz : (s.extract 0 (Utf8.decode s 0).2).size = (Utf8.decode s 0).2 := by rw [ByteArray.size_extract]; omega
  have hz2 : (s.extract (Utf8.decode s 0).2 s.size).size = s.size - (Utf8.decode s 0).2 := by rw [ByteArray.size_extract]; omega
  have hr := piecesF_right (s.extract 0 (Utf8.decode s 0).2) (s.extract (Utf8.decode s 0).2 s.size) n 0
  rw [hs, hz, Nat.add_zero (Utf8.decode s 0).2] at hr
  have hp : pieces s = piecesF s (n + 1) 0 := piecesF_fuel s s.size (n + 1) 0 (by omega) (by omega)
  have hq : pieces (s.extract (Utf8.decode s 0).2 s.size) = piecesF (s.extract (Utf8.decode s 0).2 s.size) n 0 := piecesF_fuel _ (s.extract (Utf8.decode s 0).2 s.size).size n 0 (by omega) (by omega)
  rw [hp, hq, piecesF_step s n 0 h, Nat.zero_add (Utf8.decode s 0).2, hr]
theorem glue_size_pos {s : ByteArray} (h : pieces s ≠ []) : 0 < s.size := by
  rcases Nat.eq_zero_or_pos s.size with h0 | h0
  · exfalso
    refine h ?_
    unfold pieces
    rw [piecesF_end s _ _ (by omega)]
  · exact h0
theorem good_tail {x : Nat × ByteArray} {l : List (Nat × ByteArray)} (h : Good (x :: l)) : Good l := by
  unfold Good at h ⊢
  have h0 : 0 < (glue (x :: l)).size := glue_size_pos (by rw [h]; simp)
  have hc := pieces_cons _ h0
  rw [h] at hc
  injection hc with h1 h2
  have hx : x.2.size = (Utf8.decode (glue (x :: l)) 0).2 := by
    have hi := width_in _ 0 h0
    have := congrArg (fun y : Nat × ByteArray => y.2.size) h1
    simp only [ByteArray.size_extract] at this
    omega
  have hg : (glue (x :: l)).extract (Utf8.decode (glue (x :: l)) 0).2 (glue (x :: l)).size = glue l := by
    rw [← hx]
    show (x.2 ++ glue l).extract x.2.size (x.2 ++ glue l).size = glue l
    rw [ByteArray.size_append]
    exact ByteArray.extract_append_eq_right rfl (by simp)
  rw [hg] at h2
  exact h2.symm
theorem good_take : ∀ {a b : List (Nat × ByteArray)}, Good (a ++ b) → Good a
  | [], _, _ => rfl
  | x :: a, b, h => by
    have ht : Good a := good_take (b := b) (good_tail (x := x) h)
    unfold Good at h ht ⊢
    have h0 : 0 < (glue (x :: a ++ b)).size := glue_size_pos (by rw [h]; simp)
    have hc := pieces_cons _ h0
    rw [h] at hc
    have h1 := (List.cons.inj hc).1
    have hi := width_in _ 0 h0
    have hw := width_pos _ 0 h0
    have hx1 : x.1 = (Utf8.decode (glue (x :: a ++ b)) 0).1 := congrArg (·.1) h1
    have hx : x.2.size = (Utf8.decode (glue (x :: a ++ b)) 0).2 := by
      have := congrArg (fun y : Nat × ByteArray => y.2.size) h1
      simp only [ByteArray.size_extract] at this
      omega
    -- the text ahead of b
    have hg : glue (x :: a) = (glue (x :: a ++ b)).extract 0 (glue (x :: a)).size := by
      rw [glue_append]
      exact (ByteArray.extract_append_eq_left rfl).symm
    have hsz : (glue (x :: a ++ b)).size = (glue (x :: a)).size + (glue b).size := by rw [glue_append, ByteArray.size_append]
    have hsx : (glue (x :: a)).size = x.2.size + (glue a).size := by show (x.2 ++ glue a).size = _; rw [ByteArray.size_append]
    have hd : Utf8.decode (glue (x :: a)) 0 = Utf8.decode (glue (x :: a ++ b)) 0 := by
      have := decode_extract (glue (x :: a ++ b)) 0 (glue (x :: a)).size 0 (by omega) (by omega) (by rw [Nat.zero_add, Nat.zero_add]; omega)
      rw [← hg] at this
      exact this
    have hc2 := pieces_cons (glue (x :: a)) (by omega)
    rw [hc2, hd, ← hx, ← hx1]
    have e1 : (glue (x :: a)).extract 0 x.2.size = x.2 := ByteArray.extract_append_eq_left rfl
    have e2 : (glue (x :: a)).extract x.2.size (glue (x :: a)).size = glue a := by
      rw [hsx]
      exact ByteArray.extract_append_eq_right rfl rfl
    rw [e1, e2, ht]
end Go.Proofs.YtbjgfjmknnbahaaGreatDoor

/- Plain Lean: the words of a text, by its runes. -/
set_option linter.unusedVariables false
set_option linter.unusedSimpArgs false
namespace Go.Proofs.YtbjgfjmknnbahaaGreatDoor
open Go.RowKit

def wordsP : List (Nat × ByteArray) → Option ByteArray → List ByteArray
  | [], none => []
  | [], some a => [a]
  | x :: l, none => if blankB x.1 then wordsP l none else wordsP l (some x.2)
  | x :: l, some a => if blankB x.1 then a :: wordsP l none else wordsP l (some (a ++ x.2))
theorem wordsP_eq (s : ByteArray) : ∀ (f pos : Nat) (st : Option Nat) (acc : List (Nat × Nat)), s.size ≤ pos + f → pos ≤ s.size → (∀ a, st = some a → a ≤ pos) →
    (Lib.closeSpans s (Lib.spansFromP blankB s f pos st acc)).map (fun x => s.extract x.1 x.2) = acc.map (fun x => s.extract x.1 x.2) ++ wordsP (piecesF s f pos) (st.map (fun a => s.extract a pos))
  | 0, pos, st, acc, h, hp, hst => by
    obtain rfl : pos = s.size := by omega
    cases st with
    | none => simp [Lib.spansFromP, Lib.closeSpans, piecesF, wordsP]
    | some a => simp [Lib.spansFromP, Lib.closeSpans, piecesF, wordsP]
  | f + 1, pos, st, acc, h, hp, hst => by
    unfold Lib.spansFromP piecesF
    by_cases hl : pos < s.size
    · have hw := width_pos s pos hl
      have hi := width_in s pos hl
      rw [if_pos hl, if_pos hl]
      cases hb : blankB (Utf8.decode s pos).1 with
      | true =>
        cases st with
        | none =>
          simp only [if_true, Option.map_none, wordsP, hb]
          rw [wordsP_eq s f _ none acc (by omega) hi (by simp)]
          rfl
        | some a =>
          simp only [if_true, Option.map_some, wordsP, hb]
          rw [wordsP_eq s f _ none _ (by omega) hi (by simp), List.map_append, List.append_assoc]
          rfl
      | false =>
        cases st with
        | none =>
          simp only [Bool.false_eq_true, if_false, Option.map_none, wordsP, hb]
          rw [wordsP_eq s f _ (some pos) acc (by omega) hi (by intro a e; cases e; omega)]
          rfl
        | some a =>
          have ha := hst a rfl
          simp only [Bool.false_eq_true, if_false, Option.map_some, wordsP, hb]
          rw [wordsP_eq s f _ (some a) acc (by omega) hi (by intro a e; cases e; omega), extract_join s a pos _ ha (by omega)]
          rfl
    · obtain rfl : pos = s.size := by omega
      rw [if_neg hl, if_neg hl]
      cases st with
      | none => simp [Lib.closeSpans, wordsP]
      | some a => simp [Lib.closeSpans, wordsP]
theorem wordsL_P (s : ByteArray) : wordsL s = wordsP (pieces s) none := by
  have := wordsP_eq s s.size 0 none [] (by omega) (Nat.zero_le _) (by simp)
  simp only [List.map_nil, List.nil_append, Option.map_none] at this
  exact this
/-- Runes without a blank. -/
def Solid (l : List (Nat × ByteArray)) : Prop := ∀ x ∈ l, blankB x.1 = false
/-- Each word is so many runes of the text, one behind the other, none of them blank. -/
theorem wordsP_mem : ∀ (l m : List (Nat × ByteArray)) (st : Option ByteArray), (∀ a, st = some a → a = glue m ∧ Solid m ∧ m ≠ []) →
    ∀ x ∈ wordsP l st, ∃ p q r, (x = glue q ∧ Solid q ∧ q ≠ []) ∧ ((st = none ∧ l = p ++ (q ++ r)) ∨ (∃ a, st = some a ∧ m ++ l = p ++ (q ++ r)))
  | [], m, none, h, x, hx => by simp [wordsP] at hx
  | [], m, some a, h, x, hx => by
    simp only [wordsP, List.mem_singleton] at hx
    subst hx
    obtain ⟨h1, h2, h3⟩ := h _ rfl
    exact ⟨[], m, [], ⟨h1, h2, h3⟩, .inr ⟨_, rfl, by simp⟩⟩
  | y :: l, m, none, h, x, hx => by
    unfold wordsP at hx
    cases hb : blankB y.1 with
    | true =>
      rw [hb] at hx
      simp only [if_true] at hx
      obtain ⟨p, q, r, h1, h2⟩ := wordsP_mem l [] none (by simp) x hx
      rcases h2 with ⟨_, h2⟩ | ⟨a, h2, _⟩
      · exact ⟨y :: p, q, r, h1, .inl ⟨rfl, by rw [h2]; rfl⟩⟩
      · cases h2
    | false =>
      rw [hb] at hx
      simp only [Bool.false_eq_true, if_false] at hx
      obtain ⟨p, q, r, h1, h2⟩ := wordsP_mem l [y] (some y.2) (by intro a e; cases e; exact ⟨by simp [glue], by intro z hz; simp at hz; subst hz; exact hb, by simp⟩) x hx
      rcases h2 with ⟨h2, _⟩ | ⟨a, _, h2⟩
      · cases h2
      · exact ⟨p, q, r, h1, .inl ⟨rfl, h2⟩⟩
  | y :: l, m, some a, h, x, hx => by
    obtain ⟨k1, k2, k3⟩ := h _ rfl
    unfold wordsP at hx
    cases hb : blankB y.1 with
    | true =>
      rw [hb] at hx
      simp only [if_true] at hx
      rcases List.mem_cons.1 hx with rfl | hx
      · exact ⟨[], m, y :: l, ⟨k1, k2, k3⟩, .inr ⟨_, rfl, rfl⟩⟩
      · obtain ⟨p, q, r, h1, h2⟩ := wordsP_mem l [] none (by simp) x hx
        rcases h2 with ⟨_, h2⟩ | ⟨a, h2, _⟩
        · exact ⟨m ++ y :: p, q, r, h1, .inr ⟨_, rfl, by rw [h2]; simp⟩⟩
        · cases h2
    | false =>
      rw [hb] at hx
      simp only [Bool.false_eq_true, if_false] at hx
      obtain ⟨p, q, r, h1, h2⟩ := wordsP_mem l (m ++ [y]) (some (a ++ y.2)) (by
        intro a' e
        cases e
        refine ⟨by rw [glue_append, ← k1]; simp [glue], ?_, by simp⟩
        intro z hz
        rcases List.mem_append.1 hz with hz | hz
        · exact k2 z hz
        · simp at hz; subst hz; exact hb) x hx
      rcases h2 with ⟨h2, _⟩ | ⟨a', _, h2⟩
      · cases h2
      · exact ⟨p, q, r, h1, .inr ⟨_, rfl, by rw [← h2]; simp⟩⟩
theorem good_drop : ∀ {a b : List (Nat × ByteArray)}, Good (a ++ b) → Good b
  | [], _, h => h
  | x :: a, b, h => good_drop (a := a) (good_tail h)
/-- A word has no blank. -/
theorem wordsL_solid (s : ByteArray) : ∀ x ∈ wordsL s, Solid (pieces x) ∧ pieces x ≠ [] := by
  intro x hx
  rw [wordsL_P] at hx
  obtain ⟨p, q, r, ⟨h1, h2, h3⟩, h4⟩ := wordsP_mem (pieces s) [] none (by simp) x hx
  rcases h4 with ⟨_, h4⟩ | ⟨a, h4, _⟩
  · have hg := good_pieces s
    rw [h4] at hg
    have hq : Good q := good_take (good_drop hg)
    rw [h1, hq]
    exact ⟨h2, h3⟩
  · cases h4
theorem solid_noBlank {x : ByteArray} (h : Solid (pieces x)) : anyBlank (runes x) = false := by
  rw [← pieces_runes]
  unfold anyBlank
  rw [List.any_map, List.any_eq_false]
  intro y hy
  simp [h y hy]
theorem noBlank_solid {x : ByteArray} (h : anyBlank (runes x) = false) : Solid (pieces x) := by
  rw [← pieces_runes] at h
  unfold anyBlank at h
  rw [List.any_map, List.any_eq_false] at h
  intro y hy
  simpa using h y hy
theorem noBlank_empty : anyBlank (runes ByteArray.empty) = false := rfl
/-- A word, and what stands behind a blank. -/
theorem wordsP_word : ∀ (l r : List (Nat × ByteArray)) (a : ByteArray), Solid l → wordsP (l ++ r) (some a) = wordsP r (some (a ++ glue l))
  | [], r, a, _ => by simp [glue]
  | y :: l, r, a, h => by
    rw [List.cons_append, wordsP, h y (by simp)]
    simp only [Bool.false_eq_true, if_false]
    rw [wordsP_word l r _ (fun z hz => h z (List.mem_cons_of_mem _ hz))]
    simp [glue, ByteArray.append_assoc]
theorem wordsP_first (l r : List (Nat × ByteArray)) (h : Solid l) (hne : l ≠ []) : wordsP (l ++ r) none = wordsP r (some (glue l)) := by
  cases l with
  | nil => exact absurd rfl hne
  | cons y l =>
    rw [List.cons_append, wordsP, h y (by simp)]
    simp only [Bool.false_eq_true, if_false]
    rw [wordsP_word l r _ (fun z hz => h z (List.mem_cons_of_mem _ hz))]
    rfl
end Go.Proofs.YtbjgfjmknnbahaaGreatDoor

/- Words on which clues are right. -/
set_option linter.unusedVariables false
set_option linter.unusedSimpArgs false
namespace Go.Proofs.YtbjgfjmknnbahaaGreatDoor
open Go.RowKit

def oddT (x : ByteArray) : Bool := anyBlank (runes x) || !neW x
def wordsBad (ws : List ByteArray) : Bool := decide (ws.length < 1 ∨ 12 < ws.length) || ws.any oddT
def marksOk (mk : ByteArray) : Bool := mk.data.toList.all (fun b => b == 44 || b == 45)
def sizesBad (zs : List Int) (mk : ByteArray) : Bool := !okZ zs || !(mk.size + 1 == zs.length) || !marksOk mk
def checkF (ws : List ByteArray) (zs : List Int) (mk : ByteArray) : Nat := if wordsBad ws then 160 else if sizesBad zs mk then 161 else 0
/-- The document's loop over the sizes from place k on, a taken together so far. -/
def refZ (mk : ByteArray) : List Int → Nat → Int → Bool
  | [], _, a => decide (a ≤ 24)
  | z :: l, k, a => if z < 1 ∨ 24 < z ∨ 24 < a then false else if 0 < k ∧ (mk.get! (k - 1)).toNat ≠ 44 ∧ (mk.get! (k - 1)).toNat ≠ 45 then false else refZ mk l (k + 1) (a + z)
theorem okFrom_step (z : Int) (l : List Int) (a : Int) (h1 : 1 ≤ z) (h2 : z ≤ 24) (h3 : a + z ≤ 24) : okFrom (z :: l) a = okFrom l (a + z) := by
  simp only [okFrom]
  rw [if_neg (by omega), if_neg (by omega)]
/-- Once too great, always wrong. -/
theorem refZ_big (mk : ByteArray) : ∀ (l : List Int) (k : Nat) (a : Int), 24 < a → refZ mk l k a = false
  | [], k, a, h => by simp [refZ]; omega
  | z :: l, k, a, h => by unfold refZ; rw [if_pos (by omega)]
def marksFrom (mk : ByteArray) : Nat → Nat → Bool
  | 0, _ => true
  | n + 1, k => (decide (k = 0) || ((mk.get! (k - 1)).toNat == 44) || ((mk.get! (k - 1)).toNat == 45)) && marksFrom mk n (k + 1)
theorem refZ_eq (mk : ByteArray) : ∀ (l : List Int) (k : Nat) (a : Int), 0 ≤ a → a ≤ 24 → (0 < a ∨ l ≠ []) → refZ mk l k a = (okFrom l a && marksFrom mk l.length k)
  | [], k, a, h0, h1, h2 => by
    have : 0 < a := by rcases h2 with h | h; exact h; exact absurd rfl h
    simp [refZ, okFrom, marksFrom, h1, this]
  | z :: l, k, a, h0, h1, h2 => by
    unfold refZ
    by_cases c1 : z < 1 ∨ 24 < z ∨ 24 < a
    · rw [if_pos c1]
      simp only [okFrom]
      rw [if_pos (by omega)]
      rfl
    · rw [if_neg c1]
      by_cases c3 : 24 < a + z
      · have ho : okFrom (z :: l) a = false := by
          simp only [okFrom]
          rw [if_neg (by omega), if_pos c3]
        rw [ho, refZ_big mk l (k + 1) (a + z) c3]
        simp
      · rw [okFrom_step z l a (by omega) (by omega) (by omega)]
        simp only [List.length_cons, marksFrom]
        rw [refZ_eq mk l (k + 1) (a + z) (by omega) (by omega) (.inl (by omega))]
        by_cases c2 : 0 < k ∧ (mk.get! (k - 1)).toNat ≠ 44 ∧ (mk.get! (k - 1)).toNat ≠ 45
        · rw [if_pos c2]
          have e0 : decide (k = 0) = false := by simp; omega
          have e1 : ((mk.get! (k - 1)).toNat == 44) = false := by simp [c2.2.1]
          have e2 : ((mk.get! (k - 1)).toNat == 45) = false := by simp [c2.2.2]
          rw [e0, e1, e2]
          simp
        · rw [if_neg c2]
          have : (decide (k = 0) || ((mk.get! (k - 1)).toNat == 44) || ((mk.get! (k - 1)).toNat == 45)) = true := by
            simp only [Bool.or_eq_true, decide_eq_true_eq, beq_iff_eq]
            omega
          rw [this]
          simp
/-- All the marks are commas and dashes: byte by byte, and at the places that the document looks at. -/
theorem marksFrom_all (mk : ByteArray) : ∀ n k, 1 ≤ k → k - 1 + n = mk.size → marksFrom mk n k = (mk.data.toList.drop (k - 1)).all (fun b => b == 44 || b == 45)
  | 0, k, hk, h => by
    have : mk.data.toList.length ≤ k - 1 := by rw [← Lib.size_eq]; omega
    rw [List.drop_of_length_le this]
    rfl
  | n + 1, k, hk, h => by
    have hx : mk.data.toList[k - 1]? = some (mk.get! (k - 1)) := by
      have hd : k - 1 < mk.data.size := by show k - 1 < mk.size; omega
      rw [ByteArray.get!, getElem!_pos mk.data (k - 1) hd]
      simp [Array.getElem?_toList, hd]
    rw [drop_cons hx]
    unfold marksFrom
    rw [marksFrom_all mk n (k + 1) (by omega) (by omega), show k + 1 - 1 = k - 1 + 1 by omega]
    have e0 : decide (k = 0) = false := by simp; omega
    rw [e0, List.all_cons]
    have e1 : ∀ x : UInt8, (x.toNat == 44) = (x == 44) := fun x => by
      rw [Bool.eq_iff_iff, beq_iff_eq, beq_iff_eq]
      exact ⟨fun e => UInt8.toNat_inj.1 e, fun e => by rw [e]; rfl⟩
    have e2 : ∀ x : UInt8, (x.toNat == 45) = (x == 45) := fun x => by
      rw [Bool.eq_iff_iff, beq_iff_eq, beq_iff_eq]
      exact ⟨fun e => UInt8.toNat_inj.1 e, fun e => by rw [e]; rfl⟩
    rw [e1, e2]
    simp
theorem marks_all (mk : ByteArray) (n : Nat) (h : n = mk.size + 1) : marksFrom mk n 0 = marksOk mk := by
  subst h
  unfold marksFrom marksOk
  rw [marksFrom_all mk mk.size 1 (Nat.le_refl _) (by omega)]
  simp
/-- The document's answer on the sizes. -/
theorem refZ_sizes (zs : List Int) (mk : ByteArray) (h1 : zs ≠ []) (h2 : mk.size + 1 = zs.length) : refZ mk zs 0 0 = !sizesBad zs mk := by
  rw [refZ_eq mk zs 0 0 (by omega) (by omega) (.inr h1), marks_all mk zs.length h2.symm]
  unfold sizesBad okZ
  have : (mk.size + 1 == zs.length) = true := by simp [h2]
  rw [this]
  simp
theorem sizesBad_len (zs : List Int) (mk : ByteArray) (h : zs = [] ∨ mk.size + 1 ≠ zs.length) : sizesBad zs mk = true := by
  unfold sizesBad
  rcases h with rfl | h
  · simp [okZ, okFrom]
  · have : (mk.size + 1 == zs.length) = false := by simp [h]
    rw [this]
    simp
end Go.Proofs.YtbjgfjmknnbahaaGreatDoor
