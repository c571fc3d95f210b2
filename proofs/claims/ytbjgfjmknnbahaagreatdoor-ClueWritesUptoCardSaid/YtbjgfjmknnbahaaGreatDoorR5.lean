/- Texts joined: Pieces, EncSpec, Encode, Utf1, IdxRune. -/
import Derived.Test.YtbjgfjmknnbahaaGreatDoorR2
import Derived.Laws.BytesArg
import Derived.Test.YtbjgfjmknnbahaaGreatDoorProg
import Derived.WalkKit
import Derived.BigCall
import Derived.Lib.Hide
import Derived.WalkSpells
import Derived.WalkSmall
import Derived.Deep.Light
import Derived.Laws.Rows
import Derived.Test.YtbjgfjmknnbahaaGreatDoorR1
import Derived.Deep.RegionWith
import Derived.BigQuiet
import Derived.Deep.QuietTactic
import Derived.BigRegion
import Derived.WalkMore
import Derived.LoopN
/- Plain Lean: a text as its runes, each with its bytes. -/
set_option linter.unusedVariables false
set_option linter.unusedSimpArgs false
namespace Go.Proofs.YtbjgfjmknnbahaaGreatDoor
open Go.RowKit

set_option maxRecDepth 100000 in
set_option maxHeartbeats 4000000 in
/-- Fewer bytes, as long as the rune's own are there. -/
theorem decodeN_less (n n' b0 b1 b2 b3 c1 c2 c3 : Nat) (hn : n' ≤ n) (hw : (Lib.decodeN n b0 b1 b2 b3).2 ≤ n') (e1 : 1 < n' → c1 = b1) (e2 : 2 < n' → c2 = b2) (e3 : 3 < n' → c3 = b3) : Lib.decodeN n' b0 c1 c2 c3 = Lib.decodeN n b0 b1 b2 b3 := by
  rcases (show n' ≤ 1 ∨ n' = 2 ∨ n' = 3 ∨ 4 ≤ n' by omega) with h | rfl | rfl | h
  · clear e1 e2 e3
    unfold Lib.decodeN at hw ⊢
    repeat' split at hw
    all_goals (repeat' split)
    all_goals first | rfl | (exfalso; simp only at hw; omega)
  · have e1 := e1 (by omega)
    subst e1
    clear e2 e3
    unfold Lib.decodeN at hw ⊢
    repeat' split at hw
    all_goals (repeat' split)
    all_goals first | rfl | (exfalso; simp only at hw; omega)
  · have e1 := e1 (by omega)
    have e2 := e2 (by omega)
    subst e1 e2
    clear e3
    unfold Lib.decodeN at hw ⊢
    repeat' split at hw
    all_goals (repeat' split)
    all_goals first | rfl | (exfalso; simp only at hw; omega)
  · have e1 := e1 (by omega)
    have e2 := e2 (by omega)
    have e3 := e3 (by omega)
    subst e1 e2 e3
    have a1 : (1 < n') = (1 < n) := propext ⟨fun _ => by omega, fun _ => by omega⟩
    have a2 : (2 < n') = (2 < n) := propext ⟨fun _ => by omega, fun _ => by omega⟩
    have a3 : (3 < n') = (3 < n) := propext ⟨fun _ => by omega, fun _ => by omega⟩
    unfold Lib.decodeN
    simp only [a1, a2, a3]
set_option maxRecDepth 100000 in
set_option maxHeartbeats 4000000 in
/-- More bytes, where the first of them is no continuation byte. -/
theorem decodeN_open (n n' b0 b1 b2 b3 c1 c2 c3 : Nat) (h1 : 1 ≤ n) (hn : n ≤ n') (e1 : 1 < n → c1 = b1) (e2 : 2 < n → c2 = b2) (e3 : 3 < n → c3 = b3)
    (o1 : n = 1 → n < n' → c1 / 64 ≠ 2) (o2 : n = 2 → n < n' → c2 / 64 ≠ 2) (o3 : n = 3 → n < n' → c3 / 64 ≠ 2) : Lib.decodeN n' b0 c1 c2 c3 = Lib.decodeN n b0 b1 b2 b3 := by
  rcases (show n = 1 ∨ n = 2 ∨ n = 3 ∨ 4 ≤ n by omega) with rfl | rfl | rfl | h
  · have o1 := o1 rfl
    clear e1 e2 e3 o2 o3
    unfold Lib.decodeN
    repeat' split
    all_goals first | rfl | (exfalso; omega)
  · have e1 := e1 (by omega)
    have o2 := o2 rfl
    subst e1
    clear e2 e3 o1 o3
    unfold Lib.decodeN
    repeat' split
    all_goals first | rfl | (exfalso; omega)
  · have e1 := e1 (by omega)
    have e2 := e2 (by omega)
    have o3 := o3 rfl
    subst e1 e2
    clear e3 o1 o2
    unfold Lib.decodeN
    repeat' split
    all_goals first | rfl | (exfalso; omega)
  · have e1 := e1 (by omega)
    have e2 := e2 (by omega)
    have e3 := e3 (by omega)
    subst e1 e2 e3
    have a1 : (1 < n') = (1 < n) := propext ⟨fun _ => by omega, fun _ => by omega⟩
    have a2 : (2 < n') = (2 < n) := propext ⟨fun _ => by omega, fun _ => by omega⟩
    have a3 : (3 < n') = (3 < n) := propext ⟨fun _ => by omega, fun _ => by omega⟩
    unfold Lib.decodeN
    simp only [a1, a2, a3]
theorem bang_extract (s : ByteArray) (a b x : Nat) (hb : b ≤ s.size) (h : a + x < b) : (s.extract a b).get! x = s.get! (a + x) := by
  have h1 : x < (s.extract a b).data.size := by show x < (s.extract a b).size; rw [ByteArray.size_extract]; omega
  have h2 : a + x < s.data.size := by show a + x < s.size; omega
  show (s.extract a b).data[x]! = s.data[a + x]!
  rw [getElem!_pos (s.extract a b).data x h1, getElem!_pos s.data (a + x) h2]
  exact ByteArray.getElem_extract (b := s) (start := a) (stop := b) (i := x) (h := h1)
theorem bang_left (a b : ByteArray) (x : Nat) (h : x < a.size) : (a ++ b).get! x = a.get! x := by
  have h1 : x < (a ++ b).data.size := by show x < (a ++ b).size; rw [ByteArray.size_append]; omega
  have h2 : x < a.data.size := h
  show (a ++ b).data[x]! = a.data[x]!
  rw [getElem!_pos (a ++ b).data x h1, getElem!_pos a.data x h2]
  exact ByteArray.getElem_append_left h
theorem bang_right (a b : ByteArray) (x : Nat) (h : x < b.size) : (a ++ b).get! (a.size + x) = b.get! x := by
  have h1 : a.size + x < (a ++ b).data.size := by show a.size + x < (a ++ b).size; rw [ByteArray.size_append]; omega
  have h2 : x < b.data.size := h
  show (a ++ b).data[a.size + x]! = b.data[x]!
  rw [getElem!_pos (a ++ b).data _ h1, getElem!_pos b.data x h2]
  have := ByteArray.getElem_append_right (a := a) (b := b) (i := a.size + x) (hle := by omega) (h := h1)
  simp only [Nat.add_sub_cancel_left] at this
  exact this
theorem decode_extract (s : ByteArray) (a b p : Nat) (hb : b ≤ s.size) (hp : a + p < b) (h : a + p + (Utf8.decode s (a + p)).2 ≤ b) : Utf8.decode (s.extract a b) p = Utf8.decode s (a + p) := by
  rw [Lib.decode_at] at h
  rw [Lib.decode_at, Lib.decode_at]
  have hsz : (s.extract a b).size = b - a := by rw [ByteArray.size_extract]; omega
  rw [hsz, bang_extract s a b p hb hp]
  refine decodeN_less _ _ _ _ _ _ _ _ _ (by omega) (by omega) (fun h => ?_) (fun h => ?_) (fun h => ?_)
  · rw [bang_extract s a b (p + 1) hb (by omega), Nat.add_assoc]
  · rw [bang_extract s a b (p + 2) hb (by omega), Nat.add_assoc]
  · rw [bang_extract s a b (p + 3) hb (by omega), Nat.add_assoc]
/-- A text that may follow another without turning its last rune. -/
def Starts (b : ByteArray) : Prop := b.size = 0 ∨ (b.get! 0).toNat / 64 ≠ 2
theorem decode_left (a b : ByteArray) (p : Nat) (hp : p < a.size) (hb : Starts b) : Utf8.decode (a ++ b) p = Utf8.decode a p := by
  rw [Lib.decode_at, Lib.decode_at, bang_left a b p hp, ByteArray.size_append]
  have ho : ∀ k, a.size - p = k → a.size - p < a.size + b.size - p → ((a ++ b).get! (p + k)).toNat / 64 ≠ 2 := by
    intro k hk hlt
    rcases hb with h0 | h0
    · omega
    · have := bang_right a b 0 (by omega)
      rw [show p + k = a.size + 0 by omega, this]
      exact h0
  exact decodeN_open _ _ _ _ _ _ _ _ _ (by omega) (by omega) (fun h => by rw [bang_left a b _ (by omega)]) (fun h => by rw [bang_left a b _ (by omega)]) (fun h => by rw [bang_left a b _ (by omega)]) (ho 1) (ho 2) (ho 3)
theorem decode_right (a b : ByteArray) (p : Nat) (hp : p < b.size) : Utf8.decode (a ++ b) (a.size + p) = Utf8.decode b p := by
  have hin := width_in (a ++ b) (a.size + p) (by rw [ByteArray.size_append]; omega)
  have hx : (a ++ b).extract a.size (a ++ b).size = b := by
    rw [ByteArray.size_append]
    exact ByteArray.extract_append_eq_right rfl (by simp)
  have := decode_extract (a ++ b) a.size (a ++ b).size p (Nat.le_refl _) (by rw [ByteArray.size_append]; omega) hin
  rw [hx] at this
  exact this.symm

/-- The runes, each with its bytes. -/
def piecesF (s : ByteArray) : Nat → Nat → List (Nat × ByteArray)
  | 0, _ => []
  | f + 1, pos => if pos < s.size then ((Utf8.decode s pos).1, s.extract pos (pos + (Utf8.decode s pos).2)) :: piecesF s f (pos + (Utf8.decode s pos).2) else []
def pieces (s : ByteArray) : List (Nat × ByteArray) := piecesF s s.size 0
def glue : List (Nat × ByteArray) → ByteArray
  | [] => ByteArray.empty
  | x :: l => x.2 ++ glue l
theorem glue_append (a b : List (Nat × ByteArray)) : glue (a ++ b) = glue a ++ glue b := by
  induction a with
  | nil => simp [glue]
  | cons x l ih => simp [glue, ih, ByteArray.append_assoc]
theorem piecesF_end (s : ByteArray) (f pos : Nat) (h : ¬ pos < s.size) : piecesF s f pos = [] := by
  cases f with
  | zero => rfl
  | succ f => simp [piecesF, h]
theorem piecesF_step (s : ByteArray) (f pos : Nat) (h : pos < s.size) : piecesF s (f + 1) pos = ((Utf8.decode s pos).1, s.extract pos (pos + (Utf8.decode s pos).2)) :: piecesF s f (pos + (Utf8.decode s pos).2) := by
  rw [piecesF, if_pos h]
theorem piecesF_fuel (s : ByteArray) : ∀ (f g pos : Nat), s.size ≤ pos + f → s.size ≤ pos + g → piecesF s f pos = piecesF s g pos
  | 0, g, pos, h, _ => by rw [piecesF_end s 0 pos (by omega), piecesF_end s g pos (by omega)]
  | f + 1, 0, pos, _, h => by rw [piecesF_end s 0 pos (by omega), piecesF_end s _ pos (by omega)]
  | f + 1, g + 1, pos, h1, h2 => by
    unfold piecesF
    by_cases hp : pos < s.size
    · have := width_pos s pos hp
      rw [if_pos hp, if_pos hp, piecesF_fuel s f g _ (by omega) (by omega)]
    · rw [if_neg hp, if_neg hp]
theorem piecesF_runes (s : ByteArray) : ∀ (f pos : Nat), (piecesF s f pos).map (·.1) = (seqFrom s f pos).map (·.2)
  | 0, _ => rfl
  | f + 1, pos => by
    unfold piecesF seqFrom
    split
    · simp [piecesF_runes s f]
    · rfl
theorem pieces_runes (s : ByteArray) : (pieces s).map (·.1) = runes s := piecesF_runes s s.size 0
theorem extract_join (s : ByteArray) (a b c : Nat) (h1 : a ≤ b) (h2 : b ≤ c) : s.extract a b ++ s.extract b c = s.extract a c := by
  rw [ByteArray.extract_append_extract, Nat.min_eq_left h1, Nat.max_eq_right h2]
theorem piecesF_glue (s : ByteArray) : ∀ (f pos : Nat), s.size ≤ pos + f → pos ≤ s.size → glue (piecesF s f pos) = s.extract pos s.size
  | 0, pos, h, hp => by
    obtain rfl : pos = s.size := by omega
    simp [piecesF, glue]
  | f + 1, pos, h, hp => by
    unfold piecesF
    by_cases hl : pos < s.size
    · have hw := width_pos s pos hl
      have hi := width_in s pos hl
      rw [if_pos hl]
      simp only [glue]
      rw [piecesF_glue s f _ (by omega) hi]
      exact extract_join s _ _ _ (by omega) hi
    · rw [if_neg hl]
      obtain rfl : pos = s.size := by omega
      simp [glue]
theorem pieces_glue (s : ByteArray) : glue (pieces s) = s := by
  unfold pieces
  rw [piecesF_glue s s.size 0 (by omega) (Nat.zero_le _)]
  exact ByteArray.extract_zero_size
/-- Behind a text that stands ahead. -/
theorem piecesF_right (a b : ByteArray) : ∀ (f pos : Nat), piecesF (a ++ b) f (a.size + pos) = piecesF b f pos
  | 0, _ => rfl
  | f + 1, pos => by
    unfold piecesF
    by_cases hl : pos < b.size
    · have hi := width_in b pos hl
      rw [if_pos hl, if_pos (by rw [ByteArray.size_append]; omega), decode_right a b pos hl, Nat.add_assoc, piecesF_right a b f]
      congr 2
      have : (a ++ b).extract (a.size + pos) (a.size + (pos + (Utf8.decode b pos).2)) = b.extract pos (pos + (Utf8.decode b pos).2) := by
        rw [ByteArray.extract_append]
        rw [ByteArray.extract_eq_empty_iff.2 (by omega), ByteArray.empty_append]
        congr 1 <;> omega
      exact this
    · rw [if_neg hl, if_neg (by rw [ByteArray.size_append]; omega)]
theorem piecesF_left (a b : ByteArray) (hb : Starts b) : ∀ (f pos : Nat), a.size ≤ pos + f → pos ≤ a.size → piecesF (a ++ b) (f + b.size) pos = piecesF a f pos ++ pieces b
  | 0, pos, h, hp => by
    obtain rfl : pos = a.size := by omega
    have := piecesF_right a b b.size 0
    rw [Nat.add_zero] at this
    rw [Nat.zero_add, this]
    rfl
  | f + 1, pos, h, hp => by
    by_cases hl : pos < a.size
    · have hw := width_pos a pos hl
      have hi := width_in a pos hl
      rw [show f + 1 + b.size = (f + b.size) + 1 by omega]
      unfold piecesF
      rw [if_pos hl, if_pos (by rw [ByteArray.size_append]; omega), decode_left a b pos hl hb, piecesF_left a b hb f _ (by omega) hi, List.cons_append]
      congr 2
      rw [ByteArray.extract_append]
      have : b.extract (pos - a.size) (pos + (Utf8.decode a pos).2 - a.size) = ByteArray.empty := by rw [ByteArray.extract_eq_empty_iff]; omega
      rw [this, ByteArray.append_empty]
    · obtain rfl : pos = a.size := by omega
      rw [piecesF_end a _ _ hl, List.nil_append]
      have := piecesF_right a b (f + 1 + b.size) 0
      rw [Nat.add_zero a.size] at this
      rw [this]
      exact piecesF_fuel b _ _ 0 (by omega) (by omega)
theorem pieces_append (a b : ByteArray) (hb : Starts b) : pieces (a ++ b) = pieces a ++ pieces b := by
  unfold pieces
  rw [ByteArray.size_append]
  exact piecesF_left a b hb a.size 0 (by omega) (Nat.zero_le _)
theorem runes_append (a b : ByteArray) (hb : Starts b) : runes (a ++ b) = runes a ++ runes b := by
  rw [← pieces_runes, ← pieces_runes, ← pieces_runes, pieces_append a b hb, List.map_append]
theorem pieces_nil : pieces ByteArray.empty = [] := rfl
/-- One rune of its own. -/
theorem pieces_one (x : ByteArray) (r : Nat) (h0 : 0 < x.size) (h : Utf8.decode x 0 = (r, x.size)) : pieces x = [(r, x)] := by
  unfold pieces
  obtain ⟨n, hn⟩ : ∃ n, x.size = n + 1 := ⟨x.size - 1, by omega⟩
  rw [hn]
  unfold piecesF
  rw [if_pos (by omega), h, piecesF_end x _ _ (by simp)]
  simp only [Nat.zero_add]
  rw [ByteArray.extract_zero_size]
theorem pieces_byte (x : ByteArray) (h0 : x.size = 1) (h : (x.get! 0).toNat < 128) : pieces x = [((x.get! 0).toNat, x)] := by
  refine pieces_one x _ (by omega) ?_
  rw [decode_lo x 0 h, h0]

/-! Pieces that a text of theirs is read as. -/
def Good (ps : List (Nat × ByteArray)) : Prop := pieces (glue ps) = ps
theorem good_pieces (s : ByteArray) : Good (pieces s) := by unfold Good; rw [pieces_glue]
/-- What stands ahead of what is not empty has a first rune. -/
theorem pieces_cons (s : ByteArray) (h : 0 < s.size) : pieces s = ((Utf8.decode s 0).1, s.extract 0 (Utf8.decode s 0).2) :: pieces (s.extract (Utf8.decode s 0).2 s.size) := by
  have hw := width_pos s 0 h
  have hi := width_in s 0 h
  rw [Nat.zero_add] at hi
  have hs : s.extract 0 (Utf8.decode s 0).2 ++ s.extract (Utf8.decode s 0).2 s.size = s := by
    rw [extract_join s _ _ _ (Nat.zero_le _) hi]
    exact ByteArray.extract_zero_size
  obtain ⟨n, hn⟩ : ∃ n, s.size = n + 1 := ⟨s.size - 1, by omega⟩
  have hz : (s.extract 0 (Utf8.decode s 0).2).size = (Utf8.decode s 0).2 := by rw [ByteArray.size_extract]; omega
  have hz2 : (s.extract (Utf8.decode s 0).2 s.size).size = s.size - (Utf8.decode s 0).2 := by rw [ByteArray.size_extract]; omega
  have hr := piecesF_right (s.extract 0 (Utf8.decode s 0).2) (s.extract (Utf8.decode s 0).2 s.size) n 0
  rw [hs, hz, Nat.add_zero (Utf8.decode s 0).2] at hr
  have hp : pieces s = piecesF s (n + 1) 0 := piecesF_fuel s s.size (n + 1) 0 (by omega) (by omega)
  have hq : pieces (s.extract (Utf8.decode s 0).2 s.size) = piecesF (s.extract (Utf8.decode s 0).2 s.size) n 0 := piecesF_fuel _ (s.extract (Utf8.decode s 0).2 s.size).size n 0 (by omega) (by omega)
  rw [hp, hq, piecesF_step s n 0 h, Nat.zero_add (Utf8.decode s 0).2, hr]
theorem glue_size_pos {s : ByteArray} (h : pieces s ≠ []) : 0 < s.size := by
  rcases Nat.eq_zero_or_pos s.size with h0 | h0
  · exfalso
    refine h ?_
    unfold pieces
    rw [piecesF_end s _ _ (by omega)]
  · exact h0
theorem good_tail {x : Nat × ByteArray} {l : List (Nat × ByteArray)} (h : Good (x :: l)) : Good l := by
  unfold Good at h ⊢
  have h0 : 0 < (glue (x :: l)).size := glue_size_pos (by rw [h]; simp)
  have hc := pieces_cons _ h0
  rw [h] at hc
  injection hc with h1 h2
  have hx : x.2.size = (Utf8.decode (glue (x :: l)) 0).2 := by
    have hi := width_in _ 0 h0
    have := congrArg (fun y : Nat × ByteArray => y.2.size) h1
    simp only [ByteArray.size_extract] at this
    omega
  have hg : (glue (x :: l)).extract (Utf8.decode (glue (x :: l)) 0).2 (glue (x :: l)).size = glue l := by
    rw [← hx]
    show (x.2 ++ glue l).extract x.2.size (x.2 ++ glue l).size = glue l
    rw [ByteArray.size_append]
    exact ByteArray.extract_append_eq_right rfl (by simp)
  rw [hg] at h2
  exact h2.symm
theorem good_take : ∀ {a b : List (Nat × ByteArray)}, Good (a ++ b) → Good a
  | [], _, _ => rfl
  | x :: a, b, h => by
    have ht : Good a := good_take (b := b) (good_tail (x := x) h)
    unfold Good at h ht ⊢
    have h0 : 0 < (glue (x :: a ++ b)).size := glue_size_pos (by rw [h]; simp)
    have hc := pieces_cons _ h0
    rw [h] at hc
    have h1 := (List.cons.inj hc).1
    have hi := width_in _ 0 h0
    have hw := width_pos _ 0 h0
    have hx1 : x.1 = (Utf8.decode (glue (x :: a ++ b)) 0).1 := congrArg (·.1) h1
    have hx : x.2.size = (Utf8.decode (glue (x :: a ++ b)) 0).2 := by
      have := congrArg (fun y : Nat × ByteArray => y.2.size) h1
      simp only [ByteArray.size_extract] at this
      omega
    -- the text ahead of b
    have hg : glue (x :: a) = (glue (x :: a ++ b)).extract 0 (glue (x :: a)).size := by
      rw [glue_append]
      exact (ByteArray.extract_append_eq_left rfl).symm
    have hsz : (glue (x :: a ++ b)).size = (glue (x :: a)).size + (glue b).size := by rw [glue_append, ByteArray.size_append]
    have hsx : (glue (x :: a)).size = x.2.size + (glue a).size := by show (x.2 ++ glue a).size = _; rw [ByteArray.size_append]
    have hd : Utf8.decode (glue (x :: a)) 0 = Utf8.decode (glue (x :: a ++ b)) 0 := by
      have := decode_extract (glue (x :: a ++ b)) 0 (glue (x :: a)).size 0 (by omega) (by omega) (by rw [Nat.zero_add, Nat.zero_add]; omega)
      rw [← hg] at this
      exact this
    have hc2 := pieces_cons (glue (x :: a)) (by omega)
    rw [hc2, hd, ← hx, ← hx1]
    have e1 : (glue (x :: a)).extract 0 x.2.size = x.2 := ByteArray.extract_append_eq_left rfl
    have e2 : (glue (x :: a)).extract x.2.size (glue (x :: a)).size = glue a := by
      rw [hsx]
      exact ByteArray.extract_append_eq_right rfl rfl
    rw [e1, e2, ht]
end Go.Proofs.YtbjgfjmknnbahaaGreatDoor

/- Plain Lean: the bytes of runes. -/
set_option linter.unusedVariables false
set_option linter.unusedSimpArgs false
namespace Go.Proofs.YtbjgfjmknnbahaaGreatDoor
open Go.RowKit

theorem byte_of (a : Int) (k : Nat) (h : a = k) : UInt8.ofNat a.toNat = UInt8.ofNat k := by rw [h]; rfl
theorem enc_bad {r : Int} (h : r < 0 ∨ 1114111 < r ∨ (55296 ≤ r ∧ r ≤ 57343)) : Utf8.encode r = ⟨#[239, 191, 189]⟩ := by
  have hv : Utf8.valid r = false := by
    unfold Utf8.valid
    simp only [Bool.or_eq_false_iff, Bool.and_eq_false_iff, decide_eq_false_iff_not]
    omega
  unfold Utf8.encode
  rw [hv]
  simp only [Bool.false_eq_true, if_false, Utf8.runeError]
  rfl
theorem enc_valid {r : Int} (h : (0 ≤ r ∧ r < 55296) ∨ (57344 ≤ r ∧ r ≤ 1114111)) : Utf8.valid r = true := by
  unfold Utf8.valid
  simp only [Bool.or_eq_true, Bool.and_eq_true, decide_eq_true_eq]
  omega
theorem enc_1 {r : Int} (h0 : 0 ≤ r) (h1 : r < 128) : Utf8.encode r = strOfNums [r] := by
  obtain ⟨n, rfl⟩ := Int.eq_ofNat_of_zero_le h0
  unfold Utf8.encode
  rw [enc_valid (.inl ⟨h0, by omega⟩)]
  simp only [if_true, Int.toNat_natCast]
  rw [if_pos (by omega)]
  rfl
theorem enc_2 {r : Int} (h0 : 128 ≤ r) (h1 : r < 2048) : Utf8.encode r = strOfNums [192 + r / 64, 128 + r % 64] := by
  obtain ⟨n, rfl⟩ := Int.eq_ofNat_of_zero_le (show 0 ≤ r by omega)
  unfold Utf8.encode
  rw [enc_valid (.inl ⟨by omega, by omega⟩)]
  simp only [if_true, Int.toNat_natCast]
  rw [if_neg (by omega), if_pos (by omega)]
  unfold strOfNums
  simp only [List.map_cons, List.map_nil]
  rw [byte_of (192 + (n : Int) / 64) (192 + n / 64) (by omega), byte_of (128 + (n : Int) % 64) (128 + n % 64) (by omega)]
theorem enc_3 {r : Int} (h0 : 2048 ≤ r) (h1 : r < 65536) (h2 : r < 55296 ∨ 57343 < r) : Utf8.encode r = strOfNums [224 + r / 4096, 128 + r / 64 % 64, 128 + r % 64] := by
  obtain ⟨n, rfl⟩ := Int.eq_ofNat_of_zero_le (show 0 ≤ r by omega)
  unfold Utf8.encode
  rw [enc_valid (by omega)]
  simp only [if_true, Int.toNat_natCast]
  rw [if_neg (by omega), if_neg (by omega), if_pos (by omega)]
  unfold strOfNums
  simp only [List.map_cons, List.map_nil]
  rw [byte_of (224 + (n : Int) / 4096) (224 + n / 4096) (by omega), byte_of (128 + (n : Int) / 64 % 64) (128 + n / 64 % 64) (by omega), byte_of (128 + (n : Int) % 64) (128 + n % 64) (by omega)]
theorem enc_4 {r : Int} (h0 : 65536 ≤ r) (h1 : r ≤ 1114111) : Utf8.encode r = strOfNums [240 + r / 262144, 128 + r / 4096 % 64, 128 + r / 64 % 64, 128 + r % 64] := by
  obtain ⟨n, rfl⟩ := Int.eq_ofNat_of_zero_le (show 0 ≤ r by omega)
  unfold Utf8.encode
  rw [enc_valid (by omega)]
  simp only [if_true, Int.toNat_natCast]
  rw [if_neg (by omega), if_neg (by omega), if_neg (by omega)]
  unfold strOfNums
  simp only [List.map_cons, List.map_nil]
  rw [byte_of (240 + (n : Int) / 262144) (240 + n / 262144) (by omega), byte_of (128 + (n : Int) / 4096 % 64) (128 + n / 4096 % 64) (by omega), byte_of (128 + (n : Int) / 64 % 64) (128 + n / 64 % 64) (by omega), byte_of (128 + (n : Int) % 64) (128 + n % 64) (by omega)]
def encL : List Nat → ByteArray
  | [] => ByteArray.empty
  | r :: l => Utf8.encode r ++ encL l
theorem encL_append (a b : List Nat) : encL (a ++ b) = encL a ++ encL b := by
  induction a with
  | nil => simp [encL]
  | cons r l ih => simp [encL, ih, ByteArray.append_assoc]
theorem encL_snoc (a : List Nat) (r : Nat) : encL (a ++ [r]) = encL a ++ Utf8.encode r := by rw [encL_append]; simp [encL]
theorem encL_size (l : List Nat) : (encL l).size ≤ 4 * l.length := by
  induction l with
  | nil => simp [encL]
  | cons r l ih => have := enc_size (r : Int); simp only [encL, ByteArray.size_append, List.length_cons]; omega
theorem strOfNums_bang (xs : List Int) (k : Nat) (x : Int) (h : xs[k]? = some x) (h0 : 0 ≤ x) (h1 : x < 256) : ((strOfNums xs).get! k).toNat = x.toNat := by
  obtain ⟨hk, rfl⟩ := List.getElem?_eq_some_iff.1 h
  have hd : k < (strOfNums xs).data.size := by simpa [strOfNums] using hk
  rw [ByteArray.get!, getElem!_pos (strOfNums xs).data k hd]
  have : (strOfNums xs).data[k] = UInt8.ofNat (xs[k]).toNat := by simp [strOfNums]
  rw [this, UInt8.toNat_ofNat']
  omega
/-- A number that is a rune of its own. -/
def Scalar (r : Nat) : Prop := r < 55296 ∨ (57344 ≤ r ∧ r ≤ 1114111)
/-- What is encoded is decoded, and begins with no continuation byte. -/
theorem enc_decode (r : Nat) (h : Scalar r) : Utf8.decode (Utf8.encode r) 0 = (r, (Utf8.encode r).size) ∧ 0 < (Utf8.encode r).size ∧ ((Utf8.encode r).get! 0).toNat / 64 ≠ 2 := by
  unfold Scalar at h
  rcases (show r < 128 ∨ (128 ≤ r ∧ r < 2048) ∨ (2048 ≤ r ∧ r < 65536) ∨ (65536 ≤ r ∧ r ≤ 1114111) by omega) with h1 | h1 | h1 | h1
  · rw [enc_1 (by omega) (by omega), Lib.decode_at, strOfNums_size, strOfNums_bang _ 0 (r : Int) rfl (by omega) (by omega), Int.toNat_natCast]
    refine ⟨?_, by simp, by omega⟩
    unfold Lib.decodeN
    rw [if_pos (by omega)]
    rfl
  · rw [enc_2 (by omega) (by omega), Lib.decode_at, strOfNums_size, strOfNums_bang _ 0 _ rfl (by omega) (by omega), strOfNums_bang _ (0 + 1) _ rfl (by omega) (by omega)]
    refine ⟨?_, by simp, by omega⟩
    unfold Lib.decodeN
    simp only [List.length_cons, List.length_nil]
    rw [if_neg (by omega), if_pos (by omega), if_pos (by omega)]
    rw [Prod.mk.injEq]
    exact ⟨by omega, rfl⟩
  · rw [enc_3 (by omega) (by omega) (by omega), Lib.decode_at, strOfNums_size, strOfNums_bang _ 0 _ rfl (by omega) (by omega), strOfNums_bang _ (0 + 1) _ rfl (by omega) (by omega), strOfNums_bang _ (0 + 2) _ rfl (by omega) (by omega)]
    refine ⟨?_, by simp, by omega⟩
    unfold Lib.decodeN
    simp only [List.length_cons, List.length_nil]
    rw [if_neg (by omega), if_neg (by omega), if_pos (by omega), if_pos (by omega)]
    rw [Prod.mk.injEq]
    exact ⟨by omega, rfl⟩
  · rw [enc_4 (by omega) (by omega), Lib.decode_at, strOfNums_size, strOfNums_bang _ 0 _ rfl (by omega) (by omega), strOfNums_bang _ (0 + 1) _ rfl (by omega) (by omega), strOfNums_bang _ (0 + 2) _ rfl (by omega) (by omega), strOfNums_bang _ (0 + 3) _ rfl (by omega) (by omega)]
    refine ⟨?_, by simp, by omega⟩
    unfold Lib.decodeN
    simp only [List.length_cons, List.length_nil]
    rw [if_neg (by omega), if_neg (by omega), if_neg (by omega), if_pos (by omega), if_pos (by omega)]
    rw [Prod.mk.injEq]
    exact ⟨by omega, rfl⟩
theorem pieces_enc (r : Nat) (h : Scalar r) : pieces (Utf8.encode r) = [(r, Utf8.encode r)] := by
  obtain ⟨h1, h2, h3⟩ := enc_decode r h
  exact pieces_one _ _ h2 h1
def encPr (r : Nat) : Nat × ByteArray := (r, Utf8.encode r)
theorem glue_encPr (l : List Nat) : glue (l.map encPr) = encL l := by
  induction l with
  | nil => rfl
  | cons r l ih => simp only [List.map_cons, glue, encL, ih, encPr]
theorem starts_enc (r : Nat) (h : Scalar r) (b : ByteArray) : Starts (Utf8.encode r ++ b) := by
  obtain ⟨h1, h2, h3⟩ := enc_decode r h
  right
  rw [bang_left _ _ _ h2]
  exact h3
theorem starts_encL (l : List Nat) (h : ∀ r ∈ l, Scalar r) : Starts (encL l) := by
  cases l with
  | nil => exact .inl rfl
  | cons r l => exact starts_enc r (h r (by simp)) _
theorem pieces_encL : ∀ (l : List Nat), (∀ r ∈ l, Scalar r) → pieces (encL l) = l.map encPr
  | [], _ => rfl
  | r :: l, h => by
    have hl : ∀ x ∈ l, Scalar x := fun x hx => h x (List.mem_cons_of_mem _ hx)
    show pieces (Utf8.encode r ++ encL l) = _
    rw [pieces_append _ _ (starts_encL l hl), pieces_enc r (h r (by simp)), pieces_encL l hl]
    rfl
theorem runes_encL (l : List Nat) (h : ∀ r ∈ l, Scalar r) : runes (encL l) = l := by
  rw [← pieces_runes, pieces_encL l h, List.map_map]
  simp [Function.comp_def, encPr]
end Go.Proofs.YtbjgfjmknnbahaaGreatDoor

/- Contracts: encoding of runes (rebusref01.Encode, utf.Encode). -/
set_option linter.unusedVariables false
set_option linter.unusedSimpArgs false
namespace Go.Proofs.YtbjgfjmknnbahaaGreatDoor
open Go.RowKit

theorem conv_lit (xs : List Int) (w : World) : (convert 72 9 (.slice (some ⟨w.heap.size, 0, none⟩) xs.length xs.length)).run Tryz.prog (w.alloc (.cells (xs.map (Value.int .u8)).toArray 5)) = .ok (.string (strOfNums xs)) (w.alloc (.cells (xs.map (Value.int .u8)).toArray 5)) := by
  refine run_convert_bytes_arg _ _ 5 Tryz.underlying72 Tryz.underlying5 _ 0 _ _ xs rfl (fun i hi => ?_) _ Tryz.underlying9
  rw [Nat.zero_add]
  rw [cell_of_row _ _ _ _ _ (0, 0) (heap_alloc_new w _)]
  simp [List.getElem?_eq_getElem hi, List.getD_eq_getElem?_getD]
set_option maxHeartbeats 4000000 in
set_option maxRecDepth 100000 in
theorem RefEncode_bad (r : Int) (w : World) (hl : -2147483648 ≤ r) (hr : r ≤ 2147483647) (h : r < 0 ∨ 1114111 < r ∨ (55296 ≤ r ∧ r ≤ 57343)) :
    Calls Tryz.prog 70 #[.int .i32 r] w fun e w' => e = .returned (.string ⟨#[239, 191, 189]⟩) ∧ Below w.heap.size w w' := by
  rcases h with h | h | ⟨h, h'⟩
  all_goals (go_enter Tryz.func70, Tryz.ntmps70; go_wp2; go_ret; exact ⟨rfl, Below.refl _ _⟩)
set_option maxHeartbeats 4000000 in
set_option maxRecDepth 100000 in
theorem RefEncode_1 (r : Int) (w : World) (h0 : 0 ≤ r) (h1 : r < 128) :
    Calls Tryz.prog 70 #[.int .i32 r] w fun e w' => e = .returned (.string (strOfNums [r])) ∧ Below w.heap.size w w' := by
  have k1 := fun (W : World) => conv_lit [r] W
  simp only [List.map_cons, List.map_nil, List.length_cons, List.length_nil, Nat.zero_add, Nat.reduceAdd] at k1
  go_enter Tryz.func70, Tryz.ntmps70
  go_wp2
  go_ret
  exact ⟨rfl, (Below.refl _ _).alloc (Nat.le_refl _) _⟩
set_option maxHeartbeats 4000000 in
set_option maxRecDepth 100000 in
theorem RefEncode_2 (r : Int) (w : World) (h0 : 128 ≤ r) (h1 : r < 2048) :
    Calls Tryz.prog 70 #[.int .i32 r] w fun e w' => e = .returned (.string (strOfNums [192 + r / 64, 128 + r % 64])) ∧ Below w.heap.size w w' := by
  have k1 := fun (W : World) => conv_lit [192 + r / 64, 128 + r % 64] W
  simp only [List.map_cons, List.map_nil, List.length_cons, List.length_nil, Nat.zero_add, Nat.reduceAdd] at k1
  go_enter Tryz.func70, Tryz.ntmps70
  go_wp2
  go_ret
  exact ⟨rfl, (Below.refl _ _).alloc (Nat.le_refl _) _⟩
set_option maxHeartbeats 4000000 in
set_option maxRecDepth 100000 in
theorem RefEncode_3 (r : Int) (w : World) (h0 : 2048 ≤ r) (h1 : r < 65536) (h2 : r < 55296 ∨ 57343 < r) :
    Calls Tryz.prog 70 #[.int .i32 r] w fun e w' => e = .returned (.string (strOfNums [224 + r / 4096, 128 + r / 64 % 64, 128 + r % 64])) ∧ Below w.heap.size w w' := by
  have k1 := fun (W : World) => conv_lit [224 + r / 4096, 128 + r / 64 % 64, 128 + r % 64] W
  simp only [List.map_cons, List.map_nil, List.length_cons, List.length_nil, Nat.zero_add, Nat.reduceAdd] at k1
  rcases h2 with h2 | h2
  all_goals (
    go_enter Tryz.func70, Tryz.ntmps70
    go_wp2
    go_ret
    exact ⟨rfl, (Below.refl _ _).alloc (Nat.le_refl _) _⟩)
set_option maxHeartbeats 4000000 in
set_option maxRecDepth 100000 in
theorem RefEncode_4 (r : Int) (w : World) (h0 : 65536 ≤ r) (h1 : r ≤ 1114111) :
    Calls Tryz.prog 70 #[.int .i32 r] w fun e w' => e = .returned (.string (strOfNums [240 + r / 262144, 128 + r / 4096 % 64, 128 + r / 64 % 64, 128 + r % 64])) ∧ Below w.heap.size w w' := by
  have k1 := fun (W : World) => conv_lit [240 + r / 262144, 128 + r / 4096 % 64, 128 + r / 64 % 64, 128 + r % 64] W
  simp only [List.map_cons, List.map_nil, List.length_cons, List.length_nil, Nat.zero_add, Nat.reduceAdd] at k1
  go_enter Tryz.func70, Tryz.ntmps70
  go_wp2
  go_ret
  exact ⟨rfl, (Below.refl _ _).alloc (Nat.le_refl _) _⟩
/-- rebusref01.Encode. -/
theorem RefEncode_any (r : Int) (w : World) (hl : -2147483648 ≤ r) (hr : r ≤ 2147483647) : Calls Tryz.prog 70 #[.int .i32 r] w fun e w' => e = .returned (.string (Utf8.encode r)) ∧ Below w.heap.size w w' := by
  by_cases hb : r < 0 ∨ 1114111 < r ∨ (55296 ≤ r ∧ r ≤ 57343)
  · rw [enc_bad hb]; exact RefEncode_bad r w hl hr hb
  by_cases h1 : r < 128
  · rw [enc_1 (by omega) h1]; exact RefEncode_1 r w (by omega) h1
  by_cases h2 : r < 2048
  · rw [enc_2 (by omega) h2]; exact RefEncode_2 r w (by omega) h2
  by_cases h3 : r < 65536
  · rw [enc_3 (by omega) h3 (by omega)]; exact RefEncode_3 r w (by omega) h3 (by omega)
  · rw [enc_4 (by omega) (by omega)]; exact RefEncode_4 r w (by omega) (by omega)

set_option maxHeartbeats 4000000 in
set_option maxRecDepth 100000 in
theorem Encode_good (r : Int) (w : World) (h : (0 ≤ r ∧ r < 55296) ∨ (57344 ≤ r ∧ r ≤ 1114111)) :
    Calls Tryz.prog 83 #[.int .i32 r] w fun e w' => e = .returned (.string (Utf8.encode r)) ∧ w = w' := by
  rcases h with ⟨h0, h1⟩ | ⟨h0, h1⟩
  all_goals (go_enter Tryz.func83, Tryz.ntmps83; go_wp2; go_ret; exact ⟨rfl, rfl⟩)
set_option maxHeartbeats 4000000 in
set_option maxRecDepth 100000 in
theorem Encode_bad (r : Int) (w : World) (hl : -2147483648 ≤ r) (hr : r ≤ 2147483647) (h : r < 0 ∨ 1114111 < r ∨ (55296 ≤ r ∧ r ≤ 57343)) :
    Calls Tryz.prog 83 #[.int .i32 r] w fun e w' => e = .returned (.string (Utf8.encode 65533)) ∧ w = w' := by
  rcases h with h | h | ⟨h, h'⟩
  all_goals (go_enter Tryz.func83, Tryz.ntmps83; go_wp2; go_ret; exact ⟨rfl, rfl⟩)
/-- utf.Encode. -/
theorem Encode_any (r : Int) (w : World) (hl : -2147483648 ≤ r) (hr : r ≤ 2147483647) : Calls Tryz.prog 83 #[.int .i32 r] w fun e w' => e = .returned (.string (Utf8.encode r)) ∧ w = w' := by
  by_cases hb : r < 0 ∨ 1114111 < r ∨ (55296 ≤ r ∧ r ≤ 57343)
  · rw [enc_bad hb]; exact Encode_bad r w hl hr hb
  · exact Encode_good r w (by omega)
end Go.Proofs.YtbjgfjmknnbahaaGreatDoor

/- Contracts: utf.Count. -/
namespace Go.Proofs.YtbjgfjmknnbahaaGreatDoor
open Go.RowKit

set_option maxHeartbeats 1000000 in
set_option maxRecDepth 100000 in
theorem Count_any (s : ByteArray) (w : World) (hs : s.size ≤ 140737488351232) :
    Calls Tryz.prog 16 #[.string s] w fun e w' => e = .returned (.int .i64 (seqs s).length) ∧ Below w.heap.size w w' := by
  go_enter Tryz.func16, Tryz.ntmps16
  go_wp2
  go_loopw [3] (fun n wr => ∃ (k pos f : Nat), n = .int .i64 k ∧ wr.heap[w.heap.size]? = some (.stringIter s pos) ∧ Below w.heap.size w wr ∧ k + (seqFrom s f pos).length = (seqs s).length ∧ s.size ≤ pos + f ∧ k ≤ pos) (fun _ wr => s.size - wr.iterPos w.heap.size)
  case atStart =>
    exact ⟨0, 0, s.size, rfl, World.iter_heap w s 0, (Below.refl _ w).alloc (Nat.le_refl _) _, by simp [seqs], by omega, by omega⟩
  case round =>
    obtain ⟨k, pos, f, rfl, hit, hbw, hacc, hfu, hkp⟩ := hrel
    have hl := seqs_length s
    by_cases hp : pos < s.size
    · have hnx : ∀ ty, (Instr.next (.pointer (some ⟨w.heap.size, 0, none⟩)) true ty).run Tryz.prog wr = _ := fun ty => Lib.run_next_any_at wr w.heap.size s pos ty hit hp
      have hwd := width_pos s pos hp
      have hd1 := decode_le s pos
      have hit2 := Lib.iterAt_heap wr w.heap.size s pos (pos + (Utf8.decode s pos).2) hit
      have hbw2 := Lib.below_iterAt hbw (k := w.heap.size) (by omega) s (pos + (Utf8.decode s pos).2)
      obtain ⟨f, rfl⟩ : ∃ f', f = f' + 1 := ⟨f - 1, by omega⟩
      have hacc' : k + 1 + (seqFrom s f (pos + (Utf8.decode s pos).2)).length = (seqs s).length := by rw [← hacc]; simp [seqFrom, hp]; omega
      have Hacc := Lib.hid hacc'
      clear hacc hacc'
      go_wp2
      go_roundw
      case rel =>
        exact ⟨k + 1, pos + (Utf8.decode s pos).2, f, by go_num, hit2, hbw2, Hacc.out, by omega, by omega⟩
      case measure =>
        simp only [World.iterPos, hit2, hit]
        omega
    · have hnx : ∀ ty, (Instr.next (.pointer (some ⟨w.heap.size, 0, none⟩)) true ty).run Tryz.prog wr = _ := fun ty => Lib.run_next_end_at wr w.heap.size s pos ty hit hp
      rw [seqFrom_end s f pos hp] at hacc
      have Hacc := Lib.hid hacc
      clear hacc
      go_wp2
      go_ret
      have := Hacc.out
      simp only [List.length_nil, Nat.add_zero] at this
      obtain rfl := this
      exact ⟨rfl, hbw⟩
end Go.Proofs.YtbjgfjmknnbahaaGreatDoor

/- Contract: strings.IndexRune of a rune beyond ASCII in the marks' text: none. -/
set_option linter.unusedVariables false
set_option linter.unusedSimpArgs false
namespace Go.Proofs.YtbjgfjmknnbahaaGreatDoor
open Go.RowKit

theorem idxByte_empty (b : Int) (w : World) : Calls Tryz.prog 104 #[.string ByteArray.empty, .int .u8 b] w fun e w' => e = .returned (.int .i64 (-1)) ∧ w' = w :=
  (Tryz.strings_IndexByte ByteArray.empty b w).mono fun e w' ⟨he, hw⟩ => ⟨he, hw⟩
def marksT : ByteArray := ⟨#[44, 45]⟩
set_option maxHeartbeats 2000000 in
set_option maxRecDepth 100000 in
theorem IdxRune_bad (w : World) :
    Calls Tryz.prog 90 #[.string ⟨#[44, 45]⟩, .int .i32 65533] w fun e w' => e = .returned (.int .i64 (-1)) ∧ Below w.heap.size w w' := by
  go_enter Tryz.func90, Tryz.ntmps90
  go_wp2
  go_loopw [5, 6] (fun _ _ wr => ∃ (pos : Nat), wr.heap[w.heap.size]? = some (.stringIter ⟨#[44, 45]⟩ pos) ∧ Below w.heap.size w wr) (fun _ _ wr => 2 - wr.iterPos w.heap.size)
  case atStart => exact ⟨0, World.iter_heap w _ 0, (Below.refl _ w).alloc (Nat.le_refl _) _⟩
  case round =>
    obtain ⟨pos, hit, hbw⟩ := hrel
    by_cases hp : pos < (⟨#[44, 45]⟩ : ByteArray).size
    · have hp2 : pos < 2 := hp
      have hdd : ∃ x : Nat, Utf8.decode ⟨#[44, 45]⟩ pos = (x, 1) ∧ x < 128 := by
        rcases (show pos = 0 ∨ pos = 1 by omega) with rfl | rfl
        · exact ⟨44, by decide +kernel, by omega⟩
        · exact ⟨45, by decide +kernel, by omega⟩
      obtain ⟨x, hdx, hx⟩ := hdd
      have hnx : ∀ ty, (Instr.next (.pointer (some ⟨w.heap.size, 0, none⟩)) true ty).run Tryz.prog wr = _ := fun ty => Lib.run_next_any_at wr w.heap.size _ pos ty hit hp
      rw [hdx] at hnx
      have hit2 := Lib.iterAt_heap wr w.heap.size _ pos (pos + 1) hit
      have hbw2 := Lib.below_iterAt hbw (k := w.heap.size) (by omega) ⟨#[44, 45]⟩ (pos + 1)
      have hxb : ((x : Int) == 65533) = false := by simp; omega
      clear hdx
      go_wp2
      go_roundw
      case rel => exact ⟨pos + 1, hit2, hbw2⟩
      case measure =>
        simp only [World.iterPos, hit2, hit]
        omega
    · have hnx : ∀ ty, (Instr.next (.pointer (some ⟨w.heap.size, 0, none⟩)) true ty).run Tryz.prog wr = _ := fun ty => Lib.run_next_end_at wr w.heap.size _ pos ty hit hp
      go_wp2
      go_ret
      exact ⟨rfl, hbw⟩
set_option maxHeartbeats 2000000 in
set_option maxRecDepth 100000 in
theorem IdxRune_3 (r : Int) (w : World) (h0 : (2048 ≤ r ∧ r < 55296) ∨ (57344 ≤ r ∧ r ≤ 1114111)) (h1 : r ≠ 65533) (h2 : 3 ≤ (Utf8.encode r).size) :
    Calls Tryz.prog 90 #[.string ⟨#[44, 45]⟩, .int .i32 r] w fun e w' => e = .returned (.int .i64 (-1)) ∧ Below w.heap.size w w' := by
  have hz := enc_size r
  have hv := enc_valid (r := r) (by omega)
  have hne : (r == 65533) = false := by simp [h1]
  have hb0 : 128 ≤ r := by omega
  have hb1 : r ≤ 1114111 := by omega
  generalize hE : Utf8.encode r = E at *
  have hvr : Lib.validRune r = true := by unfold Lib.validRune; simp; omega
  go_enter Tryz.func90, Tryz.ntmps90
  go_wp2_with (go_at_call 105; refine (Tryz.utf8_ValidRune r _).mono ?_; rintro e w' ⟨rfl, rfl⟩; rw [hvr])
  go_step3
  go_wp2_with fail
  refine wp_loop_rounds 1 ?_
  rw [rounds_succ]
  go_wp2_with fail
  (try rw [Exit.noGoto_ret])
  go_ret
  exact ⟨rfl, Below.refl _ _⟩
set_option maxHeartbeats 2000000 in
set_option maxRecDepth 100000 in
theorem IdxRune_2 (r : Int) (w : World) (h0 : 128 ≤ r) (h1 : r < 2048) :
    Calls Tryz.prog 90 #[.string ⟨#[44, 45]⟩, .int .i32 r] w fun e w' => e = .returned (.int .i64 (-1)) ∧ Below w.heap.size w w' := by
  have he := enc_2 h0 h1
  have hz : (Utf8.encode r).size = 2 := by rw [he, strOfNums_size]; rfl
  have hb : ∀ h, ((Utf8.encode r)[1]'h).toNat = (128 + r % 64).toNat := by
    intro h
    have e1 : (Utf8.encode r).data = (strOfNums [192 + r / 64, 128 + r % 64]).data := by rw [he]
    show ((Utf8.encode r).data[1]'h).toNat = _
    simp only [e1, strOfNums]
    simp
    omega
  have hne : (r == 65533) = false := by simp; omega
  have hvr : Lib.validRune r = true := by unfold Lib.validRune; simp; omega
  obtain ⟨b, hbb⟩ : ∃ b : Nat, (128 + r % 64).toNat = b := ⟨_, rfl⟩
  have hbr : 128 ≤ b ∧ b < 256 := by omega
  rw [hbb] at hb
  have hv := enc_valid (r := r) (by omega)
  generalize hE : Utf8.encode r = E at *
  have HIB := Lib.hid (fun W => idxByte_empty (b : Int) W)
  clear he hbb
  go_enter Tryz.func90, Tryz.ntmps90
  go_wp2_with (go_at_call 105; refine (Tryz.utf8_ValidRune r _).mono ?_; rintro e w' ⟨rfl, rfl⟩; rw [hvr])
  go_step3
  go_wp2_with fail
  refine wp_loop_rounds 1 ?_
  rw [rounds_succ]
  go_wp2_with fail
  go_step3
  go_wp2_with fail
  have hbn : (((45 : Nat) : Int) != (b : Int)) = true := by simp; omega
  have hbn2 : ((45 : Int) != (b : Int)) = true := by simp; omega
  have hs1 : ∀ h, ((⟨#[44, 45]⟩ : ByteArray)[1]'h).toNat = 45 := fun _ => rfl
  go_quiet (fail)
  go_wp2_with fail
  go_region_with (go_at_call 104; refine (HIB.out _).mono ?_; rintro e w2 ⟨rfl, rfl⟩)
  all_goals (go_wp2_with fail)
  all_goals (
    (repeat first | rw [Exit.noGoto_ret] | simp only [Exit.inBlock, Exit.then])
    go_ret
    refine ⟨rfl, below_drw (Below.refl _ _) _⟩)
end Go.Proofs.YtbjgfjmknnbahaaGreatDoor
