/- Texts joined: Phrase, RefPhrase, FoldPlain, PhraseLaw, CluePhrases, PhrasesCard, OpenClue, Cut, CutSpec. -/
import Derived.Test.YtbjgfjmknnbahaaGreatDoorR8
import Derived.Test.YtbjgfjmknnbahaaGreatDoorR3
import Derived.Test.YtbjgfjmknnbahaaGreatDoorR7
import Derived.Test.YtbjgfjmknnbahaaGreatDoorR5
import Derived.Test.YtbjgfjmknnbahaaGreatDoorR10
import Derived.Test.YtbjgfjmknnbahaaGreatDoorR11
import Derived.Test.YtbjgfjmknnbahaaGreatDoorR2
import Derived.SliceStrings
import Derived.Carry
import Derived.Lib.SmallJoins
import Derived.ChangeSlices
import Derived.Test.YtbjgfjmknnbahaaGreatDoorR4
/- Contract: clue.Phrase. -/
set_option linter.unusedVariables false
set_option linter.unusedSimpArgs false
namespace Go.Proofs.YtbjgfjmknnbahaaGreatDoor
open Go.RowKit

def foldsL (ws : List ByteArray) : List ByteArray := (keepW ws).map (fun x => foldT x true)
def joinS (fs : List ByteArray) : ByteArray := ⟨(Lib.join (fs.map (·.data.toList)) [32]).toArray⟩
theorem Join_any (A : Option Addr) (n c : Nat) (xs : List ByteArray) (w : World) (hrd : Rd w 1 A n (xs.map eS)) (hnc : n ≤ c) (hn : n ≤ 4294967296) (hJ : (joinS xs).size ≤ 140737488355328) :
    Calls Tryz.prog 54 #[.slice A n c, .string ⟨#[32]⟩] w fun e w' => e = .returned (.string (joinS xs)) ∧ Below w.heap.size w w' := by
  have hl : xs.length = n := by have := hrd.1; simpa using this
  rcases Nat.eq_zero_or_pos n with h0 | h0
  · subst h0
    obtain rfl : xs = [] := List.eq_nil_of_length_eq_zero hl
    refine (Tryz.strings_Join_none A c ⟨#[32]⟩ w).mono ?_
    rintro e w' ⟨rfl, rfl⟩
    exact ⟨rfl, Below.refl _ _⟩
  · obtain ⟨b, o, rfl, hc⟩ := hrd.2 h0
    subst hl
    have hcx : ∀ (j : Nat) (x : ByteArray), xs[j]? = some x → w.cell? ⟨b, o + j, none⟩ = some (.string x) := fun j x hx => hc j (eS x) (by rw [List.getElem?_map, hx]; rfl)
    have hb : b < w.heap.size := World.block_lt_of_cell? w _ (hcx 0 _ (List.getElem?_eq_getElem h0))
    have hJ2 : (Lib.join (xs.map (·.data.toList)) [32]).length ≤ 140737488355328 := by
      have : (joinS xs).size = (Lib.join (xs.map (·.data.toList)) [32]).length := by show (Lib.join _ _).toArray.size = _; simp
      omega
    exact Tryz.strings_Join b o c xs ⟨#[32]⟩ w hcx hb (by omega) hnc hJ2
theorem foldsL_cons (x : ByteArray) (l : List ByteArray) : foldsL (x :: l) = if neW x then foldT x true :: foldsL l else foldsL l := by
  unfold foldsL
  rw [keepW_cons]
  split <;> rfl

set_option maxHeartbeats 2000000 in
set_option maxRecDepth 100000 in
theorem Phrase_any (A : Option Addr) (n c : Nat) (ws : List ByteArray) (w : World) (ha : Rd w 1 A n (ws.map eS)) (hn : n ≤ 4294967296) (hz : ∀ x ∈ ws, x.size ≤ 4294967296) (hJ : (joinS (foldsL ws)).size ≤ 140737488355328) :
    Calls Tryz.prog 18 #[.slice A n c] w fun e w' => e = .returned (.string (joinS (foldsL ws))) ∧ Below w.heap.size w w' := by
  obtain ⟨i0, hi, hz0, hz1, hz2⟩ := info_parts info_str
  have hl : ws.length = n := by have := ha.1; simpa using this
  obtain ⟨F, hF⟩ : ∃ F, foldsL ws = F := ⟨_, rfl⟩
  rw [hF] at hJ ⊢
  obtain ⟨J, hJJ⟩ : ∃ J, joinS F = J := ⟨_, rfl⟩
  rw [hJJ]
  have HJJ := Lib.hid hJJ
  have HF := Lib.hid hF
  have HZ := Lib.hid hz
  clear hF hz hJJ
  go_enter Tryz.func18, Tryz.ntmps18
  go_wp2
  go_loopw [3, 9] (fun v i wr => ∃ (k : Nat) (acc : List ByteArray), i = .int .i64 k ∧ k ≤ n ∧ wr.ownsRow w.heap.size 9 1 v acc.length (acc.map eS) ∧ acc ++ foldsL (ws.drop k) = F ∧ acc.length ≤ k ∧ Below w.heap.size w wr) (fun _ i _ => n - (intOf i).toNat)
  case atStart => exact ⟨0, [], rfl, Nat.zero_le _, World.ownsRow_nil _ _ _ _, HF.out, by simp, Below.refl _ _⟩
  case round =>
    obtain ⟨k, acc, rfl, hk, hown, hacc, hal, hbw⟩ := hrel
    have hsz := hbw.size
    by_cases hlt : k < n
    · obtain ⟨b, o, x, rfl, hx, hcx⟩ := (ha.keep hbw).at1 hlt
      have hxz := HZ.out x (List.mem_of_getElem? hx)
      rw [drop_cons hx, foldsL_cons] at hacc
      unfold eS at hcx
      have HFd := Lib.hid (fun W => Fold_any x true W hxz)
      cases hne : neW x with
      | false =>
        rw [hne] at hacc
        simp only [Bool.false_eq_true, if_false] at hacc
        have Hacc := Lib.hid hacc
        have hfo := Lib.hid (neW_false hne)
        clear hacc hx hne
        go_wp2_with (go_at_call 17; refine (HFd.out _).mono ?_; rintro e w2 ⟨rfl, hb2⟩; rw [hfo.out])
        go_roundw
        case rel => exact ⟨k + 1, acc, by go_num, by omega, own_keep hown hb2, Hacc.out, by omega, below_then hbw hsz hb2⟩
        case measure => simp [intOf] <;> omega
      | true =>
        rw [hne] at hacc
        simp only [if_true] at hacc
        have hft := toList_false (neW_true hne)
        generalize foldT x true = f at hacc hft HFd
        have hacc' : (acc ++ [f]) ++ foldsL (ws.drop (k + 1)) = F := by rw [List.append_assoc]; exact hacc
        have Hacc := Lib.hid hacc'
        clear hacc hacc' hx hne
        go_wp2_with (first
          | (go_at_call 17; refine (HFd.out _).mono ?_; rintro e w2 ⟨rfl, hb2⟩; have hs2 := hb2.size; replace hown := own_keep hown hb2)
          | (at_builtin; refine wpList_append_own _ rfl _ _ 23 rfl w.heap.size 9 i0 (.string ⟨#[]⟩) 1 16 Tryz.underlying23 hi hz0 hz1 hz2 rfl (by decide) _ _ _ rfl (hown.alloc _) ⟨w2.heap.size, 0, none⟩ 1 1 [eS f] rfl rfl (cell_one_new _ _ _) (by simp [eS, Value.oneCell']) (by simp only [maxLen]; omega) (by omega) (by simp; omega) ?_; intro v' w3 hown3 hg3 hn3))
        go_roundw
        case rel =>
          refine ⟨k + 1, acc ++ [f], by go_num, by omega, ?_, Hacc.out, by simp; omega, ((below_then hbw hsz hb2).alloc (by omega) _).grown hg3 (by simp; omega) (fun k e => (hown.lt k e).1)⟩
          rw [List.length_append, List.map_append]
          exact hown3
        case measure => simp [intOf] <;> omega
    · rw [List.drop_of_length_le (by omega)] at hacc
      have hF2 : acc = F := by rw [← hacc]; simp [foldsL, keepW]
      subst hF2
      clear hacc HF
      obtain ⟨A2, c2, rfl, hc1, hc2, hrd2⟩ := own_rd hown
      have HJ0 := Join_any A2 acc.length c2 acc wr hrd2 hc1 (by omega) hJ
      rw [HJJ.out] at HJ0
      have HJ := Lib.hid HJ0
      clear HJ0 HJJ
      go_wp2_with (go_at_call 54; refine (HJ.out).mono ?_; rintro e w2 ⟨rfl, hb2⟩)
      go_ret
      exact ⟨rfl, below_then hbw hsz hb2⟩
end Go.Proofs.YtbjgfjmknnbahaaGreatDoor

/- Contract: rebusref16.Phrase. -/
set_option linter.unusedVariables false
set_option linter.unusedSimpArgs false
namespace Go.Proofs.YtbjgfjmknnbahaaGreatDoor
open Go.RowKit

/-- The folded words, with single spaces, behind what stands already. -/
def phraseOn (s : ByteArray) : List ByteArray → ByteArray
  | [] => s
  | x :: l => phraseOn ((if (foldT x true).size ≠ 0 ∧ s.size ≠ 0 then s ++ ⟨#[32]⟩ else s) ++ foldT x true) l
def phraseF (ws : List ByteArray) : ByteArray := phraseOn ByteArray.empty ws

set_option maxHeartbeats 2000000 in
set_option maxRecDepth 100000 in
theorem RefPhrase_any (A : Option Addr) (n c : Nat) (ws : List ByteArray) (w : World) (T : Nat) (ha : Rd w 1 A n (ws.map eS)) (hn : n ≤ 4294967296) (hz : ∀ x ∈ ws, x.size ≤ T) (hT : T ≤ 4294967296) (hTn : (4 * T + 1) * n ≤ 70368744177664) :
    Calls Tryz.prog 19 #[.slice A n c] w fun e w' => e = .returned (.string (phraseF ws)) ∧ Below w.heap.size w w' := by
  have hl : ws.length = n := by have := ha.1; simpa using this
  obtain ⟨R, hR⟩ : ∃ R, phraseOn ByteArray.empty ws = R := ⟨_, rfl⟩
  have HR := Lib.hid hR
  have HZ := Lib.hid hz
  unfold phraseF
  rw [hR]
  clear hR hz
  go_enter Tryz.func19, Tryz.ntmps19
  go_wp2
  go_loopw [3, 4] (fun s i wr => ∃ (k : Nat) (out : ByteArray), i = .int .i64 k ∧ s = .string out ∧ k ≤ n ∧ phraseOn out (ws.drop k) = R ∧ out.size ≤ (4 * T + 1) * k ∧ Below w.heap.size w wr) (fun _ i _ => n - (intOf i).toNat)
  case atStart => exact ⟨0, ByteArray.empty, rfl, rfl, Nat.zero_le _, HR.out, by simp, Below.refl _ _⟩
  case round =>
    obtain ⟨k, out, rfl, rfl, hk, hph, hos, hbw⟩ := hrel
    by_cases hlt : k < n
    · obtain ⟨b, o, x, rfl, hx, hcx⟩ := (ha.keep hbw).at1 hlt
      have hxz := HZ.out x (List.mem_of_getElem? hx)
      have hfz := foldT_size x true
      rw [drop_cons hx] at hph
      simp only [phraseOn] at hph
      unfold eS at hcx
      have hmul : (4 * T + 1) * (k + 1) = (4 * T + 1) * k + (4 * T + 1) := Nat.mul_succ _ _
      have hmul2 : (4 * T + 1) * (k + 1) ≤ (4 * T + 1) * n := Nat.mul_le_mul_left _ (by omega)
      have hs32 : (⟨#[32]⟩ : ByteArray).size = 1 := rfl
      generalize (4 * T + 1) * n = Q2 at hTn hmul2
      generalize hQ : (4 * T + 1) * k = Q0 at hos hmul
      have HFd := Lib.hid (fun W => RefFold_any x true W (by omega))
      generalize foldT x true = f at *
      by_cases hf : f.size = 0
      · obtain rfl : f = ByteArray.empty := by apply ByteArray.ext; exact Array.eq_empty_of_size_eq_zero hf
        rw [if_neg (by simp), ByteArray.append_empty] at hph
        have Hp := Lib.hid hph
        clear hph hx
        have hs0 : ByteArray.empty.size = 0 := rfl
        go_wp2_with (go_at_call 37; refine (HFd.out _).mono ?_; rintro e w2 ⟨rfl, hb2⟩)
        go_roundw
        case rel => exact ⟨k + 1, _, by go_num, rfl, by omega, Hp.out, by rw [hmul]; omega, below_then hbw hbw.size hb2⟩
        case measure => simp [intOf] <;> omega
      · have hft := toList_false hf
        by_cases ho : out.size = 0
        · obtain rfl : out = ByteArray.empty := by apply ByteArray.ext; exact Array.eq_empty_of_size_eq_zero ho
          rw [if_neg (by simp), ByteArray.empty_append] at hph
          have Hp := Lib.hid hph
          clear hph hx
          have hs0 : ByteArray.empty.size = 0 := rfl
          go_wp2_with (go_at_call 37; refine (HFd.out _).mono ?_; rintro e w2 ⟨rfl, hb2⟩)
          go_roundw
          case rel => exact ⟨k + 1, _, by go_num, rfl, by omega, Hp.out, by rw [hmul]; omega, below_then hbw hbw.size hb2⟩
          case measure => simp [intOf] <;> omega
        · have hot := toList_false ho
          rw [if_pos ⟨hf, ho⟩] at hph
          have Hp := Lib.hid hph
          clear hph hx
          go_wp2_with (go_at_call 37; refine (HFd.out _).mono ?_; rintro e w2 ⟨rfl, hb2⟩)
          go_roundw
          case rel => exact ⟨k + 1, _, by go_num, rfl, by omega, Hp.out, by rw [hmul]; simp only [ByteArray.size_append, hs32]; omega, below_then hbw hbw.size hb2⟩
          case measure => simp [intOf] <;> omega
    · rw [List.drop_of_length_le (by omega)] at hph
      simp only [phraseOn] at hph
      have Hp := Lib.hid hph
      clear hph
      go_wp2
      go_ret
      exact ⟨by rw [← Hp.out]; rfl, hbw⟩
end Go.Proofs.YtbjgfjmknnbahaaGreatDoor

/- Plain Lean: what is folded stays as it is when it is folded again. -/
set_option linter.unusedVariables false
set_option linter.unusedSimpArgs false
namespace Go.Proofs.YtbjgfjmknnbahaaGreatDoor
open Go.RowKit

/-- A capital letter without an accent. -/
def Cap (x : Nat) : Prop := Scalar x ∧ cls x = 1 ∧ upr x = x ∧ pln x = Utf8.encode x
def plnR (u : Nat) : List Nat := if u < 192 ∨ 381 < u then [u] else match plainTab.find? (fun p => p.1.contains (u : Int)) with | some p => p.2.map (·.toNat) | none => [u]
theorem cls_upr {r : Int} (h : cls r = 1) : cls (upr r) = 1 := by
  unfold upr
  unfold cls at *
  repeat' split at h
  all_goals first | (exfalso; omega) | skip
  repeat' split
  all_goals omega
theorem cls_scalar {r : Nat} (h : cls r = 1) : Scalar r := by
  unfold cls at h
  unfold Scalar
  repeat' split at h
  all_goals omega
theorem cap_letter {x : Nat} (h0 : 65 ≤ x) (h1 : x ≤ 90) : Cap x := by
  refine ⟨.inl (by omega), ?_, ?_, pln_out (by omega)⟩
  · unfold cls
    repeat' split
    all_goals omega
  · unfold upr
    repeat' split
    all_goals omega
theorem pln_bytes (p : List UInt8) (h : ∀ b ∈ p, b.toNat < 128) : (⟨p.toArray⟩ : ByteArray) = encL (p.map (·.toNat)) := by
  induction p with
  | nil => rfl
  | cons b p ih =>
    rw [List.map_cons]
    show _ = Utf8.encode ((b.toNat : Nat) : Int) ++ encL (p.map (·.toNat))
    rw [← ih (fun x hx => h x (List.mem_cons_of_mem _ hx)), enc_1 (by omega) (by have := h b (by simp); omega)]
    apply ByteArray.ext
    apply Array.toList_inj.1
    rw [ByteArray.data_append, Array.toList_append, strOfNums_data]
    simp
theorem pln_enc (u : Nat) : pln u = encL (plnR u) := by
  unfold pln plnR
  by_cases h : (u : Int) < 192 ∨ 381 < (u : Int)
  · rw [if_pos h, if_pos (by omega)]
    simp [encL]
  · rw [if_neg h, if_neg (by omega)]
    cases hf : plainTab.find? (fun p => p.1.contains (u : Int)) with
    | some p =>
      have hm := List.mem_of_find?_eq_some hf
      have key : ∀ q ∈ plainTab, ∀ b ∈ q.2, b.toNat < 128 := by decide
      exact pln_bytes p.2 (key p hm)
    | none => simp [encL]
theorem plnR_cap {u : Nat} (hc : cls u = 1) (hu : upr u = u) : ∀ x ∈ plnR u, Cap x := by
  intro x hx
  unfold plnR at hx
  by_cases h : u < 192 ∨ 381 < u
  · rw [if_pos h] at hx
    simp only [List.mem_singleton] at hx
    subst hx
    exact ⟨cls_scalar hc, hc, hu, pln_out (by omega)⟩
  · rw [if_neg h] at hx
    split at hx
    · rename_i p hp
      have hm := List.mem_of_find?_eq_some hp
      have key : ∀ q ∈ plainTab, ∀ b ∈ q.2, 65 ≤ b.toNat ∧ b.toNat ≤ 90 := by decide
      obtain ⟨b, hb, rfl⟩ := List.mem_map.1 hx
      exact cap_letter (key p hm b hb).1 (key p hm b hb).2
    · rename_i hn
      simp only [List.mem_singleton] at hx
      subst hx
      refine ⟨cls_scalar hc, hc, hu, ?_⟩
      unfold pln
      rw [if_neg (by omega), hn]
/-- What folding gives, as runes. -/
def foldR : List Nat → List Nat
  | [] => []
  | r :: l => (if cls r = 1 then plnR (upr r).toNat else []) ++ foldR l
theorem upr_nat (r : Nat) : ((upr r).toNat : Int) = upr r := by
  have : 0 ≤ upr r := by
    unfold upr
    repeat' split
    all_goals omega
  omega
theorem foldL_enc (l : List Nat) : foldL true l = encL (foldR l) := by
  induction l with
  | nil => rfl
  | cons r l ih =>
    simp only [foldL, foldR, encL_append, ih]
    congr 1
    unfold foldStep
    by_cases h : cls r = 1
    · rw [if_pos h, if_pos h, if_pos rfl, ← pln_enc, upr_nat]
    · rw [if_neg h, if_neg h]
      rfl
theorem foldT_enc (s : ByteArray) : foldT s true = encL (foldR (runes s)) := foldL_enc _
theorem foldR_cap : ∀ (l : List Nat), ∀ x ∈ foldR l, Cap x
  | [], x, hx => by simp [foldR] at hx
  | r :: l, x, hx => by
    rw [foldR] at hx
    rcases List.mem_append.1 hx with hx | hx
    · by_cases h : cls r = 1
      · rw [if_pos h] at hx
        refine plnR_cap ?_ ?_ x hx
        · rw [upr_nat]; exact cls_upr h
        · rw [upr_nat]; exact upr_upr _
      · rw [if_neg h] at hx
        simp at hx
    · exact foldR_cap l x hx
theorem plnR_out {x : Nat} (h : Cap x) : plnR x = [x] := by
  obtain ⟨h1, h2, h3, h4⟩ := h
  have he := pln_enc x
  rw [h4] at he
  have hs : ∀ y ∈ plnR x, Scalar y := fun y hy => (plnR_cap h2 h3 y hy).1
  have hr := runes_encL (plnR x) hs
  rw [← he] at hr
  have h5 := runes_encL [x] (by simpa using h1)
  simp only [encL, ByteArray.append_empty] at h5
  rw [h5] at hr
  exact hr.symm
theorem foldR_fixed : ∀ (l : List Nat), (∀ x ∈ l, Cap x) → foldR l = l
  | [], _ => rfl
  | r :: l, h => by
    have hr := h r (by simp)
    rw [foldR, if_pos hr.2.1, foldR_fixed l (fun x hx => h x (List.mem_cons_of_mem _ hx)), hr.2.2.1, Int.toNat_natCast, plnR_out hr]
    rfl
theorem runes_fold (s : ByteArray) : runes (foldT s true) = foldR (runes s) := by
  rw [foldT_enc]
  exact runes_encL _ fun x hx => (foldR_cap _ x hx).1
theorem pieces_fold (s : ByteArray) : pieces (foldT s true) = (foldR (runes s)).map encPr := by
  rw [foldT_enc]
  exact pieces_encL _ fun x hx => (foldR_cap _ x hx).1
/-- Folded twice is folded once. -/
theorem foldT_fold (s : ByteArray) : foldT (foldT s true) true = foldT s true := by
  rw [foldT_enc (foldT s true), runes_fold, foldR_fixed _ (foldR_cap _), ← foldT_enc]
theorem foldR_append (a b : List Nat) : foldR (a ++ b) = foldR a ++ foldR b := by
  induction a with
  | nil => rfl
  | cons r a ih => simp [foldR, ih]
end Go.Proofs.YtbjgfjmknnbahaaGreatDoor

/- Plain Lean: what a phrase's words and letters are. -/
set_option linter.unusedVariables false
set_option linter.unusedSimpArgs false
namespace Go.Proofs.YtbjgfjmknnbahaaGreatDoor
open Go.RowKit

def sp : ByteArray := ⟨#[32]⟩
theorem joinS_nil : joinS [] = ByteArray.empty := rfl
theorem joinS_one (x : ByteArray) : joinS [x] = x := by
  unfold joinS
  simp only [List.map_cons, List.map_nil, Lib.join_one]
theorem joinS_cons (x y : ByteArray) (l : List ByteArray) : joinS (x :: y :: l) = x ++ (sp ++ joinS (y :: l)) := by
  apply ByteArray.ext
  apply Array.toList_inj.1
  unfold joinS sp
  simp only [List.map_cons, Lib.join_cons, Lib.joinTail, List.flatten_cons, ByteArray.data_append, Array.toList_append]
  simp
theorem joinS_snoc : ∀ (l : List ByteArray) (f : ByteArray), l ≠ [] → joinS (l ++ [f]) = joinS l ++ sp ++ f
  | [], f, h => absurd rfl h
  | [x], f, _ => by
    show joinS (x :: f :: []) = _
    rw [joinS_cons, joinS_one, joinS_one, ByteArray.append_assoc]
  | x :: y :: l, f, _ => by
    show joinS (x :: y :: (l ++ [f])) = _
    rw [joinS_cons, joinS_cons, show y :: (l ++ [f]) = (y :: l) ++ [f] from rfl, joinS_snoc (y :: l) f (by simp)]
    simp only [ByteArray.append_assoc]
theorem joinS_size : ∀ (l : List ByteArray) (T : Nat), (∀ x ∈ l, x.size ≤ T) → (joinS l).size ≤ (T + 1) * l.length
  | [], T, _ => by rw [joinS_nil]; simp
  | [x], T, h => by rw [joinS_one]; have := h x (by simp); simp; omega
  | x :: y :: l, T, h => by
    have := joinS_size (y :: l) T (fun z hz => h z (List.mem_cons_of_mem _ hz))
    have hx := h x (by simp)
    have hsp : sp.size = 1 := rfl
    rw [joinS_cons, ByteArray.size_append, ByteArray.size_append, List.length_cons, Nat.mul_succ]
    omega
theorem joinS_pos {l : List ByteArray} (h : ∀ x ∈ l, x.size ≠ 0) (hne : l ≠ []) : (joinS l).size ≠ 0 := by
  cases l with
  | nil => exact absurd rfl hne
  | cons x l =>
    have hx := h x (by simp)
    cases l with
    | nil => rw [joinS_one]; exact hx
    | cons y l => rw [joinS_cons, ByteArray.size_append]; omega
theorem phraseOn_join : ∀ (ws acc : List ByteArray), (∀ x ∈ acc, x.size ≠ 0) → phraseOn (joinS acc) ws = joinS (acc ++ foldsL ws)
  | [], acc, h => by simp [phraseOn, foldsL, keepW]
  | w :: ws, acc, h => by
    rw [phraseOn, foldsL_cons]
    cases hn : neW w with
    | false =>
      have hf := neW_false hn
      rw [hf, if_neg (by simp), ByteArray.append_empty, phraseOn_join ws acc h]
      rfl
    | true =>
      have hf := neW_true hn
      simp only [if_true]
      have hacc : ∀ x ∈ acc ++ [foldT w true], x.size ≠ 0 := by
        intro x hx
        rcases List.mem_append.1 hx with hx | hx
        · exact h x hx
        · simp at hx; subst hx; exact hf
      rw [show acc ++ foldT w true :: foldsL ws = (acc ++ [foldT w true]) ++ foldsL ws by simp, ← phraseOn_join ws _ hacc]
      congr 1
      by_cases he : acc = []
      · subst he
        rw [joinS_nil, if_neg (by simp), List.nil_append, joinS_one, ByteArray.empty_append]
      · rw [if_pos ⟨hf, joinS_pos h he⟩, joinS_snoc acc _ he]
        rfl
/-- The document's phrase is the program's. -/
theorem phrase_eq (ws : List ByteArray) : phraseF ws = joinS (foldsL ws) := by
  have := phraseOn_join ws [] (by simp)
  rw [joinS_nil] at this
  exact this

/-- A text of capitals, not empty. -/
def CapT (x : ByteArray) : Prop := ∃ l : List Nat, x = encL l ∧ (∀ r ∈ l, Cap r) ∧ l ≠ []
theorem enc_pos {r : Nat} (h : Scalar r) : (Utf8.encode r).size ≠ 0 := by have := (enc_decode r h).2.1; omega
theorem folds_cap {ws : List ByteArray} : ∀ x ∈ foldsL ws, CapT x := by
  intro x hx
  obtain ⟨y, hy, rfl⟩ := List.mem_map.1 hx
  have hn := neW_true (List.mem_filter.1 hy).2
  refine ⟨foldR (runes y), foldT_enc y, foldR_cap _, fun h => hn ?_⟩
  rw [foldT_enc, h]
  rfl
theorem capT_pieces {x : ByteArray} (h : CapT x) : Solid (pieces x) ∧ pieces x ≠ [] ∧ Starts x := by
  obtain ⟨l, rfl, h1, h2⟩ := h
  have hs : ∀ r ∈ l, Scalar r := fun r hr => (h1 r hr).1
  rw [pieces_encL l hs]
  refine ⟨?_, by simpa using h2, starts_encL l hs⟩
  intro z hz
  obtain ⟨r, hr, rfl⟩ := List.mem_map.1 hz
  exact blankB_false (by show cls (r : Int) ≠ 3; rw [(h1 r hr).2.1]; decide)
theorem capT_fold {x : ByteArray} (h : CapT x) : foldT x true = x ∧ x.size ≠ 0 := by
  obtain ⟨l, rfl, h1, h2⟩ := h
  have hs : ∀ r ∈ l, Scalar r := fun r hr => (h1 r hr).1
  refine ⟨by rw [foldT_enc, runes_encL l hs, foldR_fixed l h1], ?_⟩
  cases l with
  | nil => exact absurd rfl h2
  | cons r l =>
    have := enc_pos (hs r (by simp))
    show (Utf8.encode r ++ encL l).size ≠ 0
    rw [ByteArray.size_append]
    omega
theorem starts_sp (b : ByteArray) : Starts (sp ++ b) := by
  right
  rw [bang_left _ _ _ (by decide)]
  decide
theorem pieces_sp : pieces sp = [(32, sp)] := pieces_byte sp rfl (by decide)
theorem starts_join {l : List ByteArray} (h : ∀ x ∈ l, CapT x) : Starts (joinS l) := by
  cases l with
  | nil => exact .inl rfl
  | cons x l =>
    have hx := h x (by simp)
    cases l with
    | nil => rw [joinS_one]; exact (capT_pieces hx).2.2
    | cons y l =>
      rw [joinS_cons]
      have h0 := (capT_fold hx).2
      rcases (capT_pieces hx).2.2 with h1 | h1
      · exact absurd h1 h0
      · right
        rw [bang_left _ _ _ (by omega)]
        exact h1
theorem pieces_join (x y : ByteArray) (l : List ByteArray) (h : ∀ z ∈ x :: y :: l, CapT z) : pieces (joinS (x :: y :: l)) = pieces x ++ (32, sp) :: pieces (joinS (y :: l)) := by
  rw [joinS_cons, pieces_append _ _ (starts_sp _), pieces_append sp _ (starts_join (fun z hz => h z (List.mem_cons_of_mem _ hz))), pieces_sp]
  rfl
theorem blank32 : blankB 32 = true := by decide
/-- The words of words that are joined by spaces. -/
theorem words_join : ∀ (l : List ByteArray), (∀ x ∈ l, CapT x) → wordsL (joinS l) = l
  | [], _ => by rw [wordsL_P]; rfl
  | [x], h => by
    obtain ⟨h1, h2, _⟩ := capT_pieces (h x (by simp))
    rw [wordsL_P, joinS_one]
    have := wordsP_first (pieces x) [] h1 h2
    rw [List.append_nil] at this
    rw [this, pieces_glue]
    rfl
  | x :: y :: l, h => by
    obtain ⟨h1, h2, _⟩ := capT_pieces (h x (by simp))
    have ih := words_join (y :: l) (fun z hz => h z (List.mem_cons_of_mem _ hz))
    rw [wordsL_P] at ih ⊢
    rw [pieces_join x y l h, wordsP_first _ _ h1 h2, pieces_glue, wordsP]
    simp only [blank32, if_true]
    rw [ih]
theorem keepW_capT {l : List ByteArray} (h : ∀ x ∈ l, CapT x) : keepW l = l := by
  unfold keepW
  rw [List.filter_eq_self]
  intro x hx
  obtain ⟨h1, h2⟩ := capT_fold (h x hx)
  unfold neW
  rw [h1]
  simpa using h2
theorem foldsL_capT {l : List ByteArray} (h : ∀ x ∈ l, CapT x) : foldsL l = l := by
  unfold foldsL
  rw [keepW_capT h]
  conv => rhs; rw [← List.map_id l]
  apply List.map_congr_left
  intro x hx
  exact (capT_fold (h x hx)).1
def catB : List ByteArray → ByteArray
  | [] => ByteArray.empty
  | x :: l => x ++ catB l
theorem catB_size : ∀ (l : List ByteArray) (T : Nat), (∀ x ∈ l, x.size ≤ T) → (catB l).size ≤ T * l.length
  | [], T, _ => by simp [catB]
  | x :: l, T, h => by
    have := catB_size l T (fun z hz => h z (List.mem_cons_of_mem _ hz))
    have hx := h x (by simp)
    rw [catB, ByteArray.size_append, List.length_cons, Nat.mul_succ]
    omega
theorem catB_folds (ws : List ByteArray) : catB (ws.map fun x => foldT x true) = catB (foldsL ws) := by
  induction ws with
  | nil => rfl
  | cons w ws ih =>
    rw [foldsL_cons, List.map_cons, catB, ih]
    cases hn : neW w with
    | false => rw [neW_false hn, ByteArray.empty_append]; rfl
    | true => rfl
theorem fold_join : ∀ (l : List ByteArray), (∀ x ∈ l, CapT x) → foldT (joinS l) true = catB l
  | [], _ => rfl
  | [x], h => by
    rw [joinS_one, (capT_fold (h x (by simp))).1]
    simp [catB]
  | x :: y :: l, h => by
    have ih := fold_join (y :: l) (fun z hz => h z (List.mem_cons_of_mem _ hz))
    have hx := (capT_fold (h x (by simp))).1
    rw [catB, ← ih, foldT_enc, foldT_enc (joinS (y :: l))]
    conv => rhs; rw [← hx, foldT_enc]
    rw [← encL_append, ← pieces_runes (joinS (x :: y :: l)), pieces_join x y l h, List.map_append, List.map_cons, foldR_append, pieces_runes, pieces_runes]
    congr 1
/-- The laws on phrases. -/
theorem phrase_words (ws : List ByteArray) : wordsL (joinS (foldsL ws)) = foldsL ws := words_join _ folds_cap
theorem phrase_own (ws : List ByteArray) : joinS (foldsL (foldsL ws)) = joinS (foldsL ws) := by rw [foldsL_capT folds_cap]
theorem phrase_letters (ws : List ByteArray) : foldT (joinS (foldsL ws)) true = catB (ws.map fun x => foldT x true) := by rw [catB_folds, fold_join _ folds_cap]
end Go.Proofs.YtbjgfjmknnbahaaGreatDoor

/- Contract: rebuslaw16.CluePhrases: true for every words. -/
set_option linter.unusedVariables false
set_option linter.unusedSimpArgs false
namespace Go.Proofs.YtbjgfjmknnbahaaGreatDoor
open Go.RowKit

theorem joinS_fold_size : ∀ ws : List ByteArray, (joinS (foldsL ws)).size ≤ 4 * (catB ws).size + ws.length
  | [] => by simp [foldsL, keepW, joinS_nil]
  | w :: ws => by
    have ih := joinS_fold_size ws
    have hf := foldT_size w true
    rw [foldsL_cons, catB, ByteArray.size_append, List.length_cons]
    cases hn : neW w with
    | false => simp only [Bool.false_eq_true, if_false]; omega
    | true =>
      simp only [if_true]
      have hsp : sp.size = 1 := rfl
      cases hl : foldsL ws with
      | nil => rw [joinS_one]; omega
      | cons y l => rw [hl] at ih; rw [joinS_cons, ByteArray.size_append, ByteArray.size_append]; omega
theorem catB_mem : ∀ {ws : List ByteArray} {x : ByteArray}, x ∈ ws → x.size ≤ (catB ws).size
  | w :: ws, x, h => by
    rw [catB, ByteArray.size_append]
    rcases List.mem_cons.1 h with rfl | h
    · omega
    · have := catB_mem h; omega
theorem own_empty (w : World) (e : TypeId) : (w.alloc (.cells #[] e)).ownsRow w.heap.size e 1 (.slice (some ⟨w.heap.size, 0, none⟩) 0 0) 0 [] :=
  ⟨by simp, .inr ⟨w.heap.size, 0, #[], rfl, Nat.le_refl _, heap_alloc_new w _, Nat.le_refl _, Nat.zero_le _, rfl, rfl⟩⟩
theorem rd_news {w : World} {ad : Addr} {n : Nat} {cs : List Value} (h : Rd w 1 (some ad) n cs) : ∀ (j : Nat) (u : Value), cs[j]? = some u → w.cell? (ad.add j) = some u := by
  intro j u hu
  have hl := h.1
  have hj := (List.getElem?_eq_some_iff.1 hu).1
  obtain ⟨b, o, e, hc⟩ := h.2 (by omega)
  injection e with e
  subst e
  have hp : (⟨b, o, none⟩ : Addr).add j = ⟨b, o + j, none⟩ := by unfold Addr.add; split <;> simp_all
  rw [hp]
  exact hc j u hu
theorem one_eS (ws : List ByteArray) : ∀ u ∈ ws.map eS, u.oneCell' = true := by
  intro u hu
  obtain ⟨x, _, rfl⟩ := List.mem_map.1 hu
  rfl
set_option maxHeartbeats 4000000 in
set_option maxRecDepth 100000 in
theorem CluePhrases_any (A : Option Addr) (n c : Nat) (ws : List ByteArray) (w : World) (ha : Rd w 1 A n (ws.map eS)) (hA : A = none → c = 0) (hnc : n ≤ c) (hn : n ≤ 1048576) (hT : (catB ws).size ≤ 1048576) (hv : Vars w) :
    Calls Tryz.prog 5 #[.slice A n c] w fun e w' => e = .returned (.bool true) ∧ Below w.heap.size w w' := by
  obtain ⟨i0, hi, hz0, hz1, hz2⟩ := info_parts info_str
  have hl : ws.length = n := by have := ha.1; simpa using this
  have hwx : ∀ x ∈ ws, x.size ≤ 1048576 := fun x hx => Nat.le_trans (catB_mem hx) hT
  have hSs := joinS_fold_size ws
  have hfl : (foldsL ws).length ≤ ws.length := by
    unfold foldsL
    rw [List.length_map]
    exact keepW_le ws
  have hfx : ∀ x ∈ foldsL ws, x.size ≤ 4194304 := by
    intro x hx
    obtain ⟨y, hy, rfl⟩ := List.mem_map.1 hx
    have := hwx y (List.mem_filter.1 hy).1
    have := foldT_size y true
    omega
  have HA := Lib.hid (fun W (h : Vars W) => Awake_any W h)
  have HPh := Lib.hid (fun A c W (h : Rd W 1 A n (ws.map eS)) => Phrase_any A n c ws W h (by omega) (fun x hx => Nat.le_trans (hwx x hx) (by omega)) (by omega))
  have HRP := Lib.hid (fun W (h : Rd W 1 A n (ws.map eS)) => (phrase_eq ws ▸ RefPhrase_any A n c ws W 1048576 h (by omega) hwx (by omega) (by omega) : Calls Tryz.prog 19 #[.slice A n c] W fun e w' => e = .returned (.string (joinS (foldsL ws))) ∧ Below W.heap.size W w'))
  have HW := Lib.hid (fun W => (by have h := Words_any (joinS (foldsL ws)) W (by omega); rw [phrase_words] at h; exact h : Calls Tryz.prog 20 #[.string (joinS (foldsL ws))] W fun e w' => Made W w' 9 1 (foldsL ws).length ((foldsL ws).map eS) e))
  have HP2 := Lib.hid (fun A c W (h : Rd W 1 A (foldsL ws).length ((foldsL ws).map eS)) => (phrase_own ws ▸ Phrase_any A (foldsL ws).length c (foldsL ws) W h (by omega) (fun x hx => Nat.le_trans (hfx x hx) (by omega)) (by rw [phrase_own]; omega) : Calls Tryz.prog 18 #[.slice A (foldsL ws).length c] W fun e w' => e = .returned (.string (joinS (foldsL ws))) ∧ Below W.heap.size W w'))
  have HF2 := Lib.hid (fun W => (phrase_letters ws ▸ Fold_any (joinS (foldsL ws)) true W (by omega) : Calls Tryz.prog 17 #[.string (joinS (foldsL ws)), .bool true] W fun e w' => e = .returned (.string (catB (ws.map fun x => foldT x true))) ∧ Below W.heap.size W w'))
  have HX := Lib.hid hwx
  clear hwx hSs hfl hfx hT
  generalize joinS (foldsL ws) = S at HPh HRP HW HP2 HF2
  generalize foldsL ws = fs at HW HP2
  obtain ⟨J, hJ⟩ : ∃ J, catB (ws.map fun x => foldT x true) = J := ⟨_, rfl⟩
  rw [hJ] at HF2
  have HJ := Lib.hid hJ
  clear hJ
  cases A with
  | none =>
    obtain rfl : c = 0 := hA rfl
    obtain rfl : n = 0 := by omega
    obtain rfl : ws = [] := List.eq_nil_of_length_eq_zero hl
    obtain rfl : J = ByteArray.empty := HJ.out.symm
    clear HJ hA hl
    go_enter Tryz.func5, Tryz.ntmps5
    go_wp2_with (first
      | (go_at_call 7; refine (HA.out _ hv).mono ?_; rintro e w1 ⟨rfl, hb1⟩; have hv1 := hv.keep hb1; have hbw1 := hb1.alloc hb1.size (.cells #[] 9); have hsz1 := hb1.size)
      | (go_at_call 18; refine (HPh.out _ _ _ Rd.nil).mono ?_; rintro e w2 ⟨rfl, hb2⟩; have hbw2 := below_then hbw1 (by simp; omega) hb2))
    go_loopw [4, 15] (fun s i wr => s = .string ByteArray.empty ∧ i = .int .i64 0 ∧ wr = w2) (fun _ _ _ => 0)
    case atStart => exact ⟨rfl, rfl, rfl⟩
    case round =>
      obtain ⟨rfl, rfl, rfl⟩ := hrel
      go_wp2_with (first
        | (go_at_call 19; refine (HRP.out _ Rd.nil).mono ?_; rintro e w3 ⟨rfl, hb3⟩; have hbw3 := below_then hbw2 hbw2.size hb3)
        | (go_at_call 20; refine (HW.out _).mono ?_; rintro e w4 ⟨A4, c4, rfl, g1, g2, g3, g4, hb4⟩; have hbw4 := below_then hbw3 hbw3.size hb4)
        | (go_at_call 18; refine (HP2.out _ _ _ g4).mono ?_; rintro e w5 ⟨rfl, hb5⟩; have hbw5 := below_then hbw4 hbw4.size hb5)
        | (go_at_call 17; refine (HF2.out _).mono ?_; rintro e w6 ⟨rfl, hb6⟩; have hbw6 := below_then hbw5 hbw5.size hb6))
      go_ret
      exact ⟨rfl, hbw6⟩
  | some ad =>
    clear hA
    go_enter Tryz.func5, Tryz.ntmps5
    go_wp2_with (first
      | (go_at_call 7; refine (HA.out _ hv).mono ?_; rintro e w1 ⟨rfl, hb1⟩; have hv1 := hv.keep hb1; have hbw1 := hb1.alloc hb1.size (.cells #[] 9); have hsz1 := hb1.size; have hnews := rd_news (ha.keep hbw1))
      | (at_builtin; refine wpList_append_own _ rfl _ _ 23 rfl w1.heap.size 9 i0 (.string ⟨#[]⟩) 1 16 Tryz.underlying23 hi hz0 hz1 hz2 rfl (by decide) _ _ _ rfl (own_empty _ _) ad n c (ws.map eS) rfl (by simp; omega) hnews (one_eS ws) (by simp only [maxLen]; omega) (by omega) (by simp) ?_; intro v' w2 hown2 hg2 hn2; simp only [List.nil_append, Nat.zero_add] at hown2; obtain ⟨A2, c2, rfl, q1, q2, hrd2⟩ := own_rd hown2; have hbw2 := hbw1.grown hg2 (by simp; omega) (fun k e => by cases e; omega); clear hnews)
      | (go_at_call 18; refine (HPh.out _ _ _ hrd2).mono ?_; rintro e w3 ⟨rfl, hb3⟩; have hbw3 := below_then hbw2 hbw2.size hb3))
    go_loopw [4, 15] (fun s i wr => ∃ (k : Nat) (out : ByteArray), i = .int .i64 k ∧ s = .string out ∧ k ≤ n ∧ out ++ catB ((ws.drop k).map fun x => foldT x true) = J ∧ out.size ≤ 4194304 * k ∧ Below w.heap.size w wr) (fun _ i _ => n - (intOf i).toNat)
    case atStart => exact ⟨0, ByteArray.empty, rfl, rfl, Nat.zero_le _, by simp [HJ.out], by simp, hbw3⟩
    case round =>
      obtain ⟨k, out, rfl, rfl, hk, hacc, hos, hbw⟩ := hrel
      by_cases hlt : k < n
      · obtain ⟨b, o, x, hax, hx, hcx⟩ := (ha.keep hbw).at1 hlt
        injection hax with hax
        subst hax
        have hxz := HX.out x (List.mem_of_getElem? hx)
        have hfz := foldT_size x true
        rw [drop_cons hx, List.map_cons, catB, ← ByteArray.append_assoc] at hacc
        unfold eS at hcx
        have HFd := Lib.hid (fun W => Fold_any x true W (by omega))
        generalize foldT x true = f at hacc hfz HFd
        have Hacc := Lib.hid hacc
        clear hacc hx
        go_wp2_with (go_at_call 17; refine (HFd.out _).mono ?_; rintro e w4 ⟨rfl, hb4⟩)
        go_roundw
        case rel => exact ⟨k + 1, _, by go_num, rfl, by omega, Hacc.out, by rw [ByteArray.size_append]; omega, below_then hbw hbw.size hb4⟩
        case measure => simp [intOf] <;> omega
      · rw [List.drop_of_length_le (by omega)] at hacc
        simp only [List.map_nil, catB, ByteArray.append_empty] at hacc
        subst hacc
        have hrw := ha.keep hbw
        go_wp2_with (first
          | (go_at_call 19; refine (HRP.out _ hrw).mono ?_; rintro e w4 ⟨rfl, hb4⟩; have hbw4 := below_then hbw hbw.size hb4)
          | (go_at_call 20; refine (HW.out _).mono ?_; rintro e w5 ⟨A5, c5, rfl, g1, g2, g3, g4, hb5⟩; have hbw5 := below_then hbw4 hbw4.size hb5)
          | (go_at_call 18; refine (HP2.out _ _ _ g4).mono ?_; rintro e w6 ⟨rfl, hb6⟩; have hbw6 := below_then hbw5 hbw5.size hb6)
          | (go_at_call 17; refine (HF2.out _).mono ?_; rintro e w7 ⟨rfl, hb7⟩; have hbw7 := below_then hbw6 hbw6.size hb7))
        go_ret
        exact ⟨rfl, hbw7⟩
end Go.Proofs.YtbjgfjmknnbahaaGreatDoor

/-
  Proved: for all words, clue.Phrase gives the document's phrase, a phrase is its own phrase, and its letters are the words' letters. The conditions: what is read is of bulk at most 1048576; the row's own (the seven package-level variables that it lists hold what the program's text lays).
-/
namespace Go.Proofs.YtbjgfjmknnbahaaGreatDoor.cluePhrases
open Go.ChangeShapes Go.WideShapes Go.ChangeAt Go.RowKit

theorem strs_bulk {H : Type} (l : List ByteArray) : Rows.uptoBulkAll (strs (H := H) l) = (catB l).size + l.length := by
  induction l with
  | nil => rfl
  | cons x l ih =>
    show Rows.uptoBulk _ + Rows.uptoBulkAll (strs l) = _
    rw [ih, catB, ByteArray.size_append, List.length_cons]
    have : Rows.uptoBulk (DataW.lit (H := H) (.string x.data.toList)) = x.size + 1 := by
      simp only [Rows.uptoBulk]
      rw [← Lib.size_eq]
    rw [this]
    omega
theorem add_at (b o j : Nat) : (⟨b, o, none⟩ : Addr).add j = ⟨b, o + j, none⟩ := by unfold Addr.add; split <;> simp_all
/-- A slice of strings that came in, as the walk reads it. -/
theorem rd_strings {W : World} {a : Addr} {len : Nat} {ss : List ByteArray} (hl : len ≤ ss.length) (hcell : ∀ i, i < ss.length → W.cell? (a.add i) = some (.string (ss.getD i ByteArray.empty))) : Rd W 1 (some a) len ((ss.take len).map eS) := by
  refine ⟨by simp; omega, fun h => ?_⟩
  obtain ⟨b, o, sp⟩ := a
  have hspot : sp = none := by simpa [Addr.add] using World.cell?_spot (hcell 0 (by omega))
  subst hspot
  refine ⟨b, o, rfl, fun j u hu => ?_⟩
  rw [List.getElem?_map, List.getElem?_take] at hu
  split at hu
  · rename_i hj
    have hc := hcell j (by omega)
    rw [add_at] at hc
    rw [hc]
    rw [List.getElem?_eq_getElem (by omega)] at hu
    injection hu with hu
    rw [← hu, List.getD_eq_getElem?_getD, List.getElem?_eq_getElem (by omega)]
    rfl
  · cases hu
theorem laidOut : laidOutB Tryz.prog = true := by kernel_rfl
theorem readRow : Tryz.prog.readableRec 23 = true := by kernel_rfl
theorem cellsS : Tryz.prog.cellsOf 9 = 1 := by kernel_rfl
set_option maxRecDepth 100000 in
theorem contract (H : Type) (enc : TypeId × Value → H) (W : World) (base : Nat) (args : Array Value) (ds gs : List (DataW H)) (before : List MemPlace)
    (hval : ∀ (j : Nat) t v, Tryz.f5.params[j]? = some t → args[j]? = some v → Value.okWide Tryz.prog W .any base t v)
    (hW : DataW.Whole enc Tryz.prog Tryz.f5.params.toList Rows.cluePhrasesSpec.vars false W args.toList ds gs before) (hk : Rows.uptoSmall H (ds ++ gs) = true) (hL : laidMetH Tryz.prog Rows.cluePhrasesUptoRow.laid W) :
    Calls Tryz.prog 5 args W fun e W' => ∃ v, e = .returned v ∧ Rows.cluePhrasesSpec.post enc Tryz.prog Tryz.f5 false true false false W args v W' := by
  have hW' := hW
  obtain ⟨p, q, hA0, hV, rfl, hfz, hnd⟩ := hW
  have hA : DataW.TrodAll enc Tryz.prog W 0 (fun _ => true) true Tryz.f5.params.toList args.toList ds p := hA0
  rw [Tryz.params5] at hA hval
  obtain ⟨v0, d0, rfl, rfl, h0⟩ := trodAll_one hA
  obtain ⟨rfl, rfl⟩ := trodVars_none hV
  have hb0 : Rows.uptoBulkAll ([d0] ++ []) ≤ 1048576 := of_decide_eq_true hk
  have hlt : ∀ x ∈ p, x.block < W.heap.size := fun x hx => hW'.lt x (by simpa using hx)
  have back : ∀ W', Below W.heap.size W W' → ∀ sp : Nat → Bool, (∀ x ∈ p ++ [], sp x.block = true) → DataW.TrodAll enc Tryz.prog W' 0 sp true [23] [v0] [d0] p := fun W' hb sp hsp =>
    trodAll_mk1 (WideElems.Trod_stays laidOut readRow (of_decide_eq_true (by kernel_rfl)) h0 (fun x hx => hb.same (hlt x hx)) (fun x hx => hsp x (by simpa using hx)))
  have hvs := vars_of hL
  have fin : ∀ W', Below W.heap.size W W' → ∃ v, Ending.returned (.bool true) = .returned v ∧ Rows.cluePhrasesSpec.post enc Tryz.prog Tryz.f5 false true false false W #[v0] v W' := fun W' hb =>
    ⟨_, rfl, post_of_below (pa := p) (pv := []) hW' (fun _ _ _ => trodAll_cons_mk (shut_bool Tryz.underlying4 _) trodAll_mk0) (fun sp hsp => back W' hb sp hsp) (fun _ _ => rfl) rfl
      hb (ok_one (by kernel_rfl) rfl (okWide_bool_mk Tryz.underlying4 _))⟩
  obtain ⟨a0, l0, c0, rfl⟩ := okWide_slice Tryz.underlying23 (hval 0 23 v0 rfl rfl)
  obtain ⟨fuel, hf⟩ := h0
  rcases open_strings Tryz.underlying23 Tryz.underlying9 cellsS hf with ⟨hcs, hx⟩ | ⟨a, len, cap, ss, hcs, hbk, hl, hm, hlen, hx, hcell, hsz⟩
  · obtain ⟨rfl, rfl, rfl⟩ : a0 = none ∧ l0 = 0 ∧ c0 = 0 := by simpa [Value.cells] using hcs
    refine (CluePhrases_any none 0 0 [] W Rd.nil (fun _ => rfl) (Nat.le_refl _) (by omega) (by simp [catB]) hvs).mono fun e W' ⟨he, hb⟩ => ?_
    subst he
    exact fin W' hb
  · obtain ⟨rfl, rfl, rfl⟩ : a0 = some a ∧ l0 = len ∧ c0 = cap := by simpa [Value.cells] using hcs
    simp only [if_true] at hlen
    have hd : d0 = .slice (strs (ss.take l0)) (strs (ss.drop l0)) := congrArg Prod.fst hx
    rw [hd] at hb0
    simp only [List.append_nil, Rows.uptoBulkAll, Rows.uptoBulk, strs_bulk] at hb0
    have hll : (ss.take l0).length = l0 := by rw [List.length_take]; omega
    have hrd := rd_strings (W := W) (a := a) (len := l0) (ss := ss) (by omega) hcell
    refine (CluePhrases_any (some a) l0 c0 (ss.take l0) W hrd (fun h => by cases h) hl (by omega) (by omega) hvs).mono fun e W' ⟨he, hb⟩ => ?_
    subst he
    exact fin W' hb
theorem reads (os : Os) {H : Type} (enc : TypeId × Value → H) : ∃ places, DataW.whole enc Tryz.prog ((laidWorld os).forCall (fun _ _ => 0) ⟨#[], #[.slice none 0 0], []⟩).memory Tryz.f5.params.toList Rows.cluePhrasesSpec.vars false #[Value.slice none 0 0].toList 8 = some ([.nil], [], places) :=
  ⟨[], by kernel_rfl⟩

set_option maxRecDepth 100000 in
theorem lifted (os : Os) (started : os.Started) (H : Type) (enc : TypeId × Value → H) (F : Stop.Interp) :
    ReturnsInHanded {} Tryz.checked os 5 .any ((Rows.OpenSpec.upto Rows.cluePhrasesSpec).preRow enc Tryz.prog Tryz.f5 Rows.cluePhrasesUptoRow.domain false Rows.cluePhrasesUptoRow.laid) (((Rows.OpenSpec.upto Rows.cluePhrasesSpec).at F).post enc Tryz.prog Tryz.f5 false true false false) := by
  obtain ⟨places, hx⟩ := reads os enc
  refine returnsInHanded_of_row (C := Tryz.checked) (s := Rows.OpenSpec.upto Rows.cluePhrasesSpec) own started (by kernel_rfl) Tryz.func5
    (witness_row_atRef (enc := enc) (C := Tryz.checked) false (laidWorld os) #[.slice none 0 0] rfl (by kernel_rfl) (by kernel_rfl) (by kernel_rfl)
      (OpenSpec.preRow_of_cond 8 hx (by kernel_rfl) (fun k hk => by cases hk; kernel_rfl) (by kernel_rfl) (laid_met os _))) ?_
  intro W base args ds gs before hval hW _ hcond _ hL _ _
  exact contract H enc W base args ds gs before hval hW (hcond _ rfl) hL
theorem said : Rows.CluePhrasesUptoSaid :=
  OpenClaim.holds_of_cond 5 Tryz.f5 rfl rfl rfl rfl rfl rfl rfl ⟨rfl, rfl, rfl, rfl, rfl⟩ rfl rfl rfl rfl rfl (by kernel_rfl) Tryz.func5 (by kernel_rfl)
    (of_decide_eq_true (by kernel_rfl)) (by unfold Func.isWrapper; first | (rw [if_pos (by decide +kernel)]; kernel_rfl) | (rw [if_neg (by decide +kernel)]; exact ⟨rfl, rfl⟩))
    (fun os started H enc _ F => by rw [OpenClaim.pre_eq_preRow]; exact lifted os started H enc F)
theorem plain (f : FuncId) (fn : Func) (hf : Tryz.pinned.checked.prog.funcNamed "rebus/rebuslaw16.CluePhrases" = some f) (hfn : Tryz.pinned.checked.prog.funcs[f]? = some fn) :
    true = Tryz.pinned.checked.prog.looks [] ∧ ∀ (j : Nat) t, fn.params[j]? = some t → Tryz.pinned.checked.prog.wantsStandIn t = false := by
  obtain rfl : f = 5 := Option.some.inj ((show Tryz.prog.funcNamed "rebus/rebuslaw16.CluePhrases" = some 5 by kernel_rfl).symm.trans hf) |>.symm
  obtain rfl : fn = Tryz.f5 := (Option.some.inj (Tryz.func5.symm.trans hfn)).symm
  refine ⟨by kernel_rfl, fun j t ht => ?_⟩
  rw [Tryz.params5] at ht
  obtain rfl : t = 23 := by simpa using Array.mem_of_getElem? ht
  exact (show Tryz.prog.wantsStandIn 23 = false by kernel_rfl)
/-- The tied card of the second form. -/
theorem card : Rows.CluePhrasesUptoCardSaid :=
  Claim7.holds_tied_plain_at .later [] _ _ _ _ said (fun _ h => by cases h) (by kernel_rfl) (fun _ h => by cases h) cluePhrasesUpto_row_tie rfl ⟨rfl, rfl⟩ (by kernel_rfl) rfl plain (by kernel_rfl)
end Go.Proofs.YtbjgfjmknnbahaaGreatDoor.cluePhrases

/- A clue that came in: as the walk reads it, and how much of it there is. -/
set_option linter.unusedVariables false
set_option linter.unusedSimpArgs false
namespace Go.Proofs.YtbjgfjmknnbahaaGreatDoor
open Go.ChangeShapes Go.WideShapes Go.ChangeAt Go.RowKit Go.Joins
open Go.ChangeMaps (open_string shut_string)
open cluePhrases (strs_bulk rd_strings add_at)

theorem lits_bulk {H : Type} (l : List Int) : Rows.uptoBulkAll (lits (H := H) .i64 l) = l.length := by
  induction l with
  | nil => rfl
  | cons x l ih =>
    show Rows.uptoBulk (DataW.lit (H := H) (.int .i64 x)) + Rows.uptoBulkAll (lits .i64 l) = _
    rw [ih, List.length_cons]
    show 1 + _ = _
    omega
theorem rd_ints {W : World} {a : Addr} {len : Nat} {zs : List Int} (hl : len ≤ zs.length) (hcell : ∀ i, i < zs.length → W.cell? (a.add i) = some (.int .i64 (zs.getD i 0))) : Rd W 1 (some a) len ((zs.take len).map eZ) := by
  refine ⟨by simp; omega, fun h => ?_⟩
  obtain ⟨b, o, sp⟩ := a
  have hspot : sp = none := by simpa [Addr.add] using World.cell?_spot (hcell 0 (by omega))
  subst hspot
  refine ⟨b, o, rfl, fun j u hu => ?_⟩
  rw [List.getElem?_map, List.getElem?_take] at hu
  split at hu
  · rename_i hj
    have hc := hcell j (by omega)
    rw [add_at] at hc
    rw [hc]
    rw [List.getElem?_eq_getElem (by omega)] at hu
    injection hu with hu
    rw [← hu, List.getD_eq_getElem?_getD, List.getElem?_eq_getElem (by omega)]
    rfl
  · cases hu
theorem cellsS' : Tryz.prog.cellsOf 9 = 1 := by kernel_rfl
theorem cellsI : Tryz.prog.cellsOf 3 = 1 := by kernel_rfl
theorem cellsC : Tryz.prog.cellsOf 26 = 3 := by kernel_rfl
theorem read_strs {H : Type} {enc : TypeId × Value → H} {W : World} {k : Nat} {v : Value} {y : DataW H × List MemPlace} (h : DataW.trod enc Tryz.prog W 0 (fun _ => true) true k 23 [v] = some y) :
    ∃ (A : Option Addr) (n c : Nat) (ws : List ByteArray), v = .slice A n c ∧ (A = none → c = 0) ∧ n ≤ c ∧ c ≤ maxLen ∧ Rd W 1 A n (ws.map eS) ∧ ws.length = n ∧ (catB ws).size + ws.length ≤ Rows.uptoBulk y.1 := by
  rcases open_strings Tryz.underlying23 Tryz.underlying9 cellsS' h with ⟨hcs, hx⟩ | ⟨a, len, cap, ss, hcs, hbk, hl, hm, hlen, hx, hcell, hsz⟩
  · obtain rfl : v = .slice none 0 0 := by simpa using hcs
    exact ⟨none, 0, 0, [], rfl, fun _ => rfl, Nat.le_refl _, Nat.zero_le _, Rd.nil, rfl, by simp [catB]⟩
  · obtain rfl : v = .slice (some a) len cap := by simpa using hcs
    simp only [if_true] at hlen
    refine ⟨some a, len, cap, ss.take len, rfl, (fun h => by cases h), hl, hm, rd_strings (by omega) hcell, by rw [List.length_take]; omega, ?_⟩
    rw [hx]
    simp only [Rows.uptoBulk, strs_bulk]
    omega
theorem read_ints {H : Type} {enc : TypeId × Value → H} {W : World} {k : Nat} {v : Value} {y : DataW H × List MemPlace} (h : DataW.trod enc Tryz.prog W 0 (fun _ => true) true k 24 [v] = some y) :
    ∃ (A : Option Addr) (n c : Nat) (zs : List Int), v = .slice A n c ∧ (A = none → c = 0) ∧ n ≤ c ∧ c ≤ maxLen ∧ Rd W 1 A n (zs.map eZ) ∧ zs.length = n ∧ zs.length ≤ Rows.uptoBulk y.1 := by
  rcases open_ints Tryz.underlying24 Tryz.underlying3 cellsI h with ⟨hcs, hx⟩ | ⟨a, len, cap, ss, hcs, hbk, hl, hm, hlen, hx, hcell, hsz⟩
  · obtain rfl : v = .slice none 0 0 := by simpa using hcs
    exact ⟨none, 0, 0, [], rfl, fun _ => rfl, Nat.le_refl _, Nat.zero_le _, Rd.nil, rfl, by simp⟩
  · obtain rfl : v = .slice (some a) len cap := by simpa using hcs
    simp only [if_true] at hlen
    refine ⟨some a, len, cap, ss.take len, rfl, (fun h => by cases h), hl, hm, rd_ints (by omega) hcell, by rw [List.length_take]; omega, ?_⟩
    rw [hx]
    simp only [Rows.uptoBulk, lits_bulk]
    omega
set_option maxRecDepth 100000 in
/-- A clue that came in. -/
theorem read_clue {H : Type} {enc : TypeId × Value → H} {W : World} {b0 : Nat} {v : Value} {y : DataW H} {p : List MemPlace} (hv : Value.okWide Tryz.prog W .any b0 26 v) (h : DataW.Trod enc Tryz.prog W 0 (fun _ => true) true 26 v y p) :
    ∃ (A : Option Addr) (n c : Nat) (B : Option Addr) (m d : Nat) (ws : List ByteArray) (zs : List Int) (mk : ByteArray), v = .agg #[.slice A n c, .slice B m d, .string mk] ∧ IsClue W v ws zs mk ∧ (A = none → c = 0) ∧ (B = none → d = 0) ∧ (catB ws).size + ws.length + zs.length + mk.size ≤ Rows.uptoBulk y := by
  obtain ⟨v0, v1, v2, y0, y1, y2, k, rfl, rfl, rfl, h0, h1, h2⟩ := open_agg3 Tryz.underlying26 (by kernel_rfl) cellsC hv h
  obtain ⟨A, n, c, ws, rfl, e1, e2, e3, e4, e5, e6⟩ := read_strs (k := k) (show DataW.trod enc Tryz.prog W 0 (fun _ => true) true k 23 [v0] = some y0 from h0)
  obtain ⟨B, m, d, zs, rfl, f1, f2, f3, f4, f5, f6⟩ := read_ints (k := k) (show DataW.trod enc Tryz.prog W 0 (fun _ => true) true k 24 [v1] = some y1 from h1)
  obtain ⟨mk, hmk, hy, hms⟩ := DataW.trod_string Tryz.underlying9 (show DataW.trod enc Tryz.prog W 0 (fun _ => true) true k 9 [v2] = some y2 from h2)
  obtain rfl : v2 = .string mk := by simpa using hmk
  refine ⟨A, n, c, B, m, d, ws, zs, mk, rfl, ⟨A, n, c, B, m, d, rfl, e4, f4, e2, f2, e3, f3, e5, f5⟩, e1, f1, ?_⟩
  have hs : Rows.uptoBulk y2.1 = mk.size + 1 := by
    rw [hy]
    simp only [Rows.uptoBulk]
    rw [← Lib.size_eq]
  show _ ≤ Rows.uptoBulkAll [y0.1, y1.1, y2.1] + 1
  simp only [Rows.uptoBulkAll, hs]
  omega
end Go.Proofs.YtbjgfjmknnbahaaGreatDoor

/- Contract: utf.Cut. -/
set_option linter.unusedVariables false
set_option linter.unusedSimpArgs false
namespace Go.Proofs.YtbjgfjmknnbahaaGreatDoor
open Go.RowKit

/-- Behind n runes from pos on. -/
def skipN (s : ByteArray) : Nat → Nat → Nat
  | 0, pos => pos
  | n + 1, pos => if pos < s.size then skipN s n (pos + (Utf8.decode s pos).2) else pos
theorem skipN_end (s : ByteArray) (n pos : Nat) (h : ¬ pos < s.size) : skipN s n pos = pos := by
  cases n with
  | zero => rfl
  | succ n => simp [skipN, h]

set_option maxHeartbeats 1000000 in
set_option maxRecDepth 100000 in
theorem Cut_any (s : ByteArray) (n : Nat) (w : World) (hs : s.size ≤ 140737488351232) (hn : 1 ≤ n) (hn2 : n ≤ 4294967296) :
    Calls Tryz.prog 44 #[.string s, .int .i64 n] w fun e w' => e = .returned (.string (s.extract 0 (skipN s n 0))) ∧ Below w.heap.size w w' := by
  obtain ⟨P, hP⟩ : ∃ P, skipN s n 0 = P := ⟨_, rfl⟩
  rw [hP]
  have HP := Lib.hid hP
  clear hP
  go_enter Tryz.func44, Tryz.ntmps44
  go_wp2
  go_loopw [1, 5] (fun v _ wr => ∃ (k pos : Nat), v = .int .i64 k ∧ k ≤ n ∧ wr.heap[w.heap.size]? = some (.stringIter s pos) ∧ Below w.heap.size w wr ∧ skipN s k pos = P ∧ pos ≤ s.size) (fun _ _ wr => s.size - wr.iterPos w.heap.size)
  case atStart => exact ⟨n, 0, rfl, Nat.le_refl _, World.iter_heap w s 0, (Below.refl _ w).alloc (Nat.le_refl _) _, HP.out, Nat.zero_le _⟩
  case round =>
    obtain ⟨k, pos, rfl, hk, hit, hbw, hsk, hps⟩ := hrel
    by_cases hp : pos < s.size
    · have hnx : ∀ ty, (Instr.next (.pointer (some ⟨w.heap.size, 0, none⟩)) true ty).run Tryz.prog wr = _ := fun ty => Lib.run_next_any_at wr w.heap.size s pos ty hit hp
      have hwd := width_pos s pos hp
      have hwi := width_in s pos hp
      have hd1 := decode_le s pos
      have hit2 := Lib.iterAt_heap wr w.heap.size s pos (pos + (Utf8.decode s pos).2) hit
      have hbw2 := Lib.below_iterAt hbw (k := w.heap.size) (by omega) s (pos + (Utf8.decode s pos).2)
      cases k with
      | zero =>
        have hpp : pos = P := hsk
        subst hpp
        clear hsk HP
        go_wp2
        go_ret
        exact ⟨rfl, hbw2⟩
      | succ k =>
        unfold skipN at hsk
        rw [if_pos hp] at hsk
        have Hs := Lib.hid hsk
        clear hsk
        go_wp2
        go_roundw
        case rel => exact ⟨k, pos + (Utf8.decode s pos).2, by go_num, by omega, hit2, hbw2, Hs.out, hwi⟩
        case measure =>
          simp only [World.iterPos, hit2, hit]
          omega
    · have hnx : ∀ ty, (Instr.next (.pointer (some ⟨w.heap.size, 0, none⟩)) true ty).run Tryz.prog wr = _ := fun ty => Lib.run_next_end_at wr w.heap.size s pos ty hit hp
      rw [skipN_end s k pos hp] at hsk
      have hpe : P = s.size := by omega
      have hex : s.extract 0 P = s := by rw [hpe]; exact ByteArray.extract_zero_size
      have He := Lib.hid hex
      clear hsk HP hex hpe
      go_wp2
      go_ret
      exact ⟨by rw [He.out]; rfl, hbw⟩
end Go.Proofs.YtbjgfjmknnbahaaGreatDoor

/- Plain Lean: an answer's letters by the sizes. -/
set_option linter.unusedVariables false
set_option linter.unusedSimpArgs false
namespace Go.Proofs.YtbjgfjmknnbahaaGreatDoor
open Go.RowKit

def cutL : List Int → List Nat → List ByteArray
  | [], _ => []
  | z :: zs, L => encL (L.take z.toNat) :: cutL zs (L.drop z.toNat)
def cutBad (ws : List ByteArray) (zs : List Int) (mk : ByteArray) (L : List Nat) : Bool := decide (checkF ws zs mk ≠ 0 ∨ (L.length : Int) ≠ lettersF ws zs mk)
theorem cutL_length : ∀ (zs : List Int) (L : List Nat), (cutL zs L).length = zs.length
  | [], _ => rfl
  | z :: zs, L => by simp [cutL, cutL_length zs]
theorem skipN_enc : ∀ (k : Nat) (l : List Nat) (a : ByteArray), (∀ r ∈ l, Scalar r) → skipN (a ++ encL l) k a.size = a.size + (encL (l.take k)).size
  | 0, l, a, _ => by simp [skipN, encL]
  | k + 1, [], a, _ => by
    rw [skipN_end _ _ _ (by simp [encL])]
    simp [encL]
  | k + 1, r :: l, a, h => by
    have hr := h r (by simp)
    have hl : ∀ x ∈ l, Scalar x := fun x hx => h x (List.mem_cons_of_mem _ hx)
    obtain ⟨h1, h2, h3⟩ := enc_decode r hr
    have e : a ++ encL (r :: l) = (a ++ Utf8.encode r) ++ encL l := by rw [encL, ByteArray.append_assoc]
    have hd : Utf8.decode (a ++ encL (r :: l)) a.size = (r, (Utf8.encode r).size) := by
      have := decode_right a (encL (r :: l)) 0 (by rw [encL, ByteArray.size_append]; omega)
      rw [Nat.add_zero a.size] at this
      rw [this, encL, decode_left _ _ 0 h2 (starts_encL l hl), h1]
    rw [skipN, if_pos (by rw [encL, ByteArray.size_append, ByteArray.size_append]; omega), hd]
    simp only
    have ih := skipN_enc k l (a ++ Utf8.encode r) hl
    rw [ByteArray.size_append] at ih
    rw [e, ih, List.take_succ_cons, encL, ByteArray.size_append, Nat.add_assoc]
theorem cut_enc (k : Nat) (l : List Nat) (h : ∀ r ∈ l, Scalar r) : (encL l).extract 0 (skipN (encL l) k 0) = encL (l.take k) := by
  have := skipN_enc k l ByteArray.empty h
  rw [ByteArray.empty_append] at this
  rw [show ByteArray.empty.size = 0 from rfl, Nat.zero_add] at this
  rw [this]
  have e : encL l = encL (l.take k) ++ encL (l.drop k) := by rw [← encL_append, List.take_append_drop]
  conv => lhs; rw [e]
  exact ByteArray.extract_append_eq_left rfl
theorem drop_enc (k : Nat) (l : List Nat) : (encL l).extract (encL (l.take k)).size (encL l).size = encL (l.drop k) := by
  have e : encL l = encL (l.take k) ++ encL (l.drop k) := by rw [← encL_append, List.take_append_drop]
  conv => lhs; rw [e]
  rw [ByteArray.size_append]
  exact ByteArray.extract_append_eq_right rfl rfl
/-- Sizes that are right: natural numbers. -/
theorem okFrom_sum : ∀ (zs : List Int) (a : Int), 0 ≤ a → a ≤ 24 → okFrom zs a = true → (∀ z ∈ zs, 1 ≤ z ∧ z ≤ 24) ∧ a + ((zs.map Int.toNat).sum : Nat) ≤ 24 ∧ sumFrom zs a = a + ((zs.map Int.toNat).sum : Nat) ∧ 0 < a + ((zs.map Int.toNat).sum : Nat)
  | [], a, h0, h1, h => by
    simp only [okFrom, decide_eq_true_eq] at h
    simp only [List.map_nil, List.sum_nil, sumFrom]
    exact ⟨by simp, by omega, by omega, by omega⟩
  | z :: zs, a, h0, h1, h => by
    simp only [okFrom] at h
    split at h
    · cases h
    · split at h
      · cases h
      · obtain ⟨k1, k2, k3, k4⟩ := okFrom_sum zs (a + z) (by omega) (by omega) h
        simp only [List.map_cons, List.sum_cons, sumFrom]
        refine ⟨fun y hy => ?_, by omega, by rw [k3]; omega, by omega⟩
        rcases List.mem_cons.1 hy with rfl | hy
        · omega
        · exact k1 y hy
theorem okZ_sum {zs : List Int} (h : okZ zs = true) : (∀ z ∈ zs, 1 ≤ z ∧ z ≤ 24) ∧ (zs.map Int.toNat).sum ≤ 24 ∧ sumZ zs = ((zs.map Int.toNat).sum : Nat) ∧ 0 < (zs.map Int.toNat).sum := by
  obtain ⟨h1, h2, h3, h4⟩ := okFrom_sum zs 0 (by omega) (by omega) h
  refine ⟨h1, by omega, ?_, by omega⟩
  unfold sumZ
  rw [h3]
  omega
/-- All of the letters, piece by piece; each piece has as many as its size says. -/
theorem cutL_cat : ∀ (zs : List Int) (L : List Nat), L.length ≤ (zs.map Int.toNat).sum → (cutL zs L).foldr (· ++ ·) ByteArray.empty = encL L
  | [], L, h => by
    have : L = [] := List.eq_nil_of_length_eq_zero (by simpa using h)
    subst this
    rfl
  | z :: zs, L, h => by
    simp only [List.map_cons, List.sum_cons] at h
    rw [cutL, List.foldr_cons, cutL_cat zs _ (by rw [List.length_drop]; omega), ← encL_append, List.take_append_drop]
theorem cutL_count : ∀ (zs : List Int) (L : List Nat), (∀ r ∈ L, Scalar r) → L.length = (zs.map Int.toNat).sum → (∀ z ∈ zs, 1 ≤ z) → ∀ (i : Nat) (x : ByteArray) (z : Int), (cutL zs L)[i]? = some x → zs[i]? = some z → ((runes x).length : Int) = z
  | [], L, _, _, _, i, x, z, hx, _ => by simp [cutL] at hx
  | y :: zs, L, hs, hl, hz, 0, x, z, hx, hy => by
    simp only [cutL, List.getElem?_cons_zero, Option.some.injEq] at hx hy
    subst hx hy
    simp only [List.map_cons, List.sum_cons] at hl
    have := hz y (by simp)
    rw [runes_encL _ (fun r hr => hs r (List.mem_of_mem_take hr)), List.length_take]
    omega
  | y :: zs, L, hs, hl, hz, i + 1, x, z, hx, hy => by
    simp only [cutL, List.getElem?_cons_succ] at hx hy
    simp only [List.map_cons, List.sum_cons] at hl
    exact cutL_count zs (L.drop y.toNat) (fun r hr => hs r (List.mem_of_mem_drop hr)) (by rw [List.length_drop]; omega) (fun z hz' => hz z (List.mem_cons_of_mem _ hz')) i x z hx hy
end Go.Proofs.YtbjgfjmknnbahaaGreatDoor
