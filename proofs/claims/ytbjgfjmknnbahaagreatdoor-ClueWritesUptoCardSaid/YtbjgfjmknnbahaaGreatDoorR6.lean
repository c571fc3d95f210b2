/- Texts joined: IdxAny, Sizes, All, PlainK0, PlainK1, PlainK2, PlainK3, RefPlainK0, RefPlainK1. -/
import Derived.Test.YtbjgfjmknnbahaaGreatDoorR5
import Derived.Lib.IndexAny
import Derived.Test.YtbjgfjmknnbahaaGreatDoorR4
import Derived.Test.YtbjgfjmknnbahaaGreatDoorR2
import Derived.ScopeJumps
import Derived.WalkMore
import Derived.Test.YtbjgfjmknnbahaaGreatDoorR1
import Derived.Test.YtbjgfjmknnbahaaGreatDoorProg
import Derived.RangeFuncNested
import Derived.RangeFuncBound
import Derived.RangeFuncCalls
import Derived.RangeFuncLeaves
import Derived.RangeFuncFrom
import Derived.Shelf.Abstract
import Derived.Shelf.RegionOpen
import Derived.WalkKit
import Derived.OwnWalkIn
import Derived.TacticsInMore
import Derived.LoopNIn
import Derived.LoopIn
import Derived.WalkSmall
import Derived.Lib.Hide
import Derived.BigCall
import Derived.WalkSpells
/- Contract: strings.IndexAny of the marks ",-" in whatever text. -/
set_option linter.unusedVariables false
set_option linter.unusedSimpArgs false
namespace Go.Proofs.YtbjgfjmknnbahaaGreatDoor
open Go.RowKit

theorem decode_high (s : ByteArray) (p : Nat) (h : 128 ≤ (s.get! p).toNat) :
    (((128 ≤ (Utf8.decode s p).1 ∧ (Utf8.decode s p).1 < 55296) ∨ (57344 ≤ (Utf8.decode s p).1 ∧ (Utf8.decode s p).1 ≤ 1114111))) ∧ ∀ k, k < (Utf8.decode s p).2 → 128 ≤ (s.get! (p + k)).toNat := by
  have h0 := (s.get! p).toNat_lt
  have h1 := (s.get! (p + 1)).toNat_lt
  have h2 := (s.get! (p + 2)).toNat_lt
  have h3 := (s.get! (p + 3)).toNat_lt
  rw [Lib.decode_at]
  have key : ∀ (n B0 B1 B2 B3 : Nat), 128 ≤ B0 → B0 < 256 → B1 < 256 → B2 < 256 → B3 < 256 →
      (((128 ≤ (Lib.decodeN n B0 B1 B2 B3).1 ∧ (Lib.decodeN n B0 B1 B2 B3).1 < 55296) ∨ (57344 ≤ (Lib.decodeN n B0 B1 B2 B3).1 ∧ (Lib.decodeN n B0 B1 B2 B3).1 ≤ 1114111))) ∧ (1 < (Lib.decodeN n B0 B1 B2 B3).2 → 128 ≤ B1) ∧ (2 < (Lib.decodeN n B0 B1 B2 B3).2 → 128 ≤ B2) ∧ (3 < (Lib.decodeN n B0 B1 B2 B3).2 → 128 ≤ B3) ∧ (Lib.decodeN n B0 B1 B2 B3).2 ≤ 4 := by
    intro n B0 B1 B2 B3 g0 g1 g2 g3 g4
    unfold Lib.decodeN
    repeat' split
    all_goals (refine ⟨?_, ?_, ?_, ?_, ?_⟩ <;> simp only <;> omega)
  obtain ⟨k0, k1, k2, k3, k4⟩ := key (s.size - p) _ _ _ _ h h0 h1 h2 h3
  refine ⟨k0, fun k hk => ?_⟩
  rcases (show k = 0 ∨ k = 1 ∨ k = 2 ∨ k = 3 by omega) with rfl | rfl | rfl | rfl
  · exact h
  · exact k1 hk
  · exact k2 hk
  · exact k3 hk
theorem byte_bang (s : ByteArray) (p : Nat) (h : p < s.size) : s.data.toList[p]? = some (s.get! p) := by
  have hd : p < s.data.size := h
  rw [ByteArray.get!, getElem!_pos s.data p hd]
  simp [Array.getElem?_toList, hd]
theorem noAny_run {s : ByteArray} {i : Nat} (hn : Lib.NoAny s.data.toList [44, 45] i) : ∀ k, (∀ j, j < k → i + j < s.size ∧ 128 ≤ (s.get! (i + j)).toNat) → Lib.NoAny s.data.toList [44, 45] (i + k)
  | 0, _ => hn
  | k + 1, h => by
    have ih := noAny_run hn k (fun j hj => h j (by omega))
    obtain ⟨h1, h2⟩ := h k (by omega)
    refine ih.succ (byte_bang s (i + k) h1) ?_
    have : s.get! (i + k) ≠ 44 := fun e => by rw [e] at h2; simp at h2
    have : s.get! (i + k) ≠ 45 := fun e => by rw [e] at h2; simp at h2
    simp [*]
theorem IdxRune_hi (r : Int) (w : World) (h : (128 ≤ r ∧ r < 55296) ∨ (57344 ≤ r ∧ r ≤ 1114111)) :
    Calls Tryz.prog 90 #[.string ⟨#[44, 45]⟩, .int .i32 r] w fun e w' => e = .returned (.int .i64 (-1)) ∧ Below w.heap.size w w' := by
  by_cases h1 : r = 65533
  · subst h1; exact IdxRune_bad w
  by_cases h2 : r < 2048
  · exact IdxRune_2 r w (by omega) h2
  · refine IdxRune_3 r w (by omega) h1 ?_
    by_cases h3 : r < 65536
    · rw [enc_3 (by omega) h3 (by omega), strOfNums_size]; exact Nat.le_refl _
    · rw [enc_4 (by omega) (by omega), strOfNums_size]; simp only [List.length_cons]; omega

set_option maxHeartbeats 2000000 in
set_option maxRecDepth 100000 in
theorem IdxAny_short (s : ByteArray) (w : World) (h8 : s.size ≤ 8) :
    Calls Tryz.prog 64 #[.string s, .string ⟨#[44, 45]⟩] w fun e w' => e = .returned (.int .i64 (Lib.indexAny s.data.toList [44, 45])) ∧ Below w.heap.size w w' := by
  have h8z : ¬ (8 < (s.size : Int)) := by omega
  go_enter Tryz.func64, Tryz.ntmps64
  go_wp2
  go_loopw [9, 10] (fun _ _ wr => ∃ (pos : Nat), wr.heap[w.heap.size]? = some (.stringIter s pos) ∧ Below w.heap.size w wr ∧ pos ≤ s.size ∧ Lib.NoAny s.data.toList [44, 45] pos) (fun _ _ wr => s.size - wr.iterPos w.heap.size)
  case atStart => exact ⟨0, World.iter_heap w _ 0, (Below.refl _ w).alloc (Nat.le_refl _) _, Nat.zero_le _, Lib.NoAny.zero _ _⟩
  case round =>
    obtain ⟨pos, hit, hbw, hps, hno⟩ := hrel
    have HN := Lib.hid hno
    clear hno
    by_cases hp : pos < s.size
    · have hwd := width_pos s pos hp
      have hwi := width_in s pos hp
      have hrl := rune_le s pos
      have hnx : ∀ ty, (Instr.next (.pointer (some ⟨w.heap.size, 0, none⟩)) true ty).run Tryz.prog wr = _ := fun ty => Lib.run_next_any_at wr w.heap.size _ pos ty hit hp
      have hit2 := Lib.iterAt_heap wr w.heap.size _ pos (pos + (Utf8.decode s pos).2) hit
      have hbw2 := Lib.below_iterAt hbw (k := w.heap.size) (by omega) s (pos + (Utf8.decode s pos).2)
      by_cases hx : (s.get! pos).toNat < 128
      · have hd : Utf8.decode s pos = ((s.get! pos).toNat, 1) := by rw [Lib.decode_at]; unfold Lib.decodeN; rw [if_pos hx]
        have hbt := byte_bang s pos hp
        rw [hd] at hnx hit2 hbw2
        clear hd hwd hwi hrl
        generalize s.get! pos = x at *
        have hcon := Lib.contains_iff_indexByte [44, 45] x
        have hback : ((x.toNat : Int)).toNat.toUInt8 = x := by simp
        have Hbt := Lib.hid hbt
        clear hbt
        cases hin : List.contains [44, 45] x
        · rw [hin] at hcon
          have hlt : ¬ ((0 : Int) ≤ Lib.indexByte [44, 45] x) := of_decide_eq_false hcon.symm
          have hstep := HN.out.succ Hbt.out hin
          have HS := Lib.hid hstep
          clear hcon hin hstep
          go_wp2_with (go_at_call 90; refine (Tryz.strings_IndexRune_ascii _ _ _ (by omega) (by omega)).mono ?_; rintro e w' ⟨rfl, hw⟩; rw [hw, hback])
          go_roundw
          case rel => exact ⟨pos + 1, hit2, hbw2, by omega, HS.out⟩
          case measure =>
            simp only [World.iterPos, hit2, hit]
            omega
        · rw [hin] at hcon
          have hge : (0 : Int) ≤ Lib.indexByte [44, 45] x := of_decide_eq_true hcon.symm
          have hfin := Lib.indexAny_hit HN.out Hbt.out hin
          have HF := Lib.hid hfin
          clear hcon hin hfin
          go_wp2_with (go_at_call 90; refine (Tryz.strings_IndexRune_ascii _ _ _ (by omega) (by omega)).mono ?_; rintro e w' ⟨rfl, hw⟩; rw [hw, hback])
          go_ret
          exact ⟨by rw [HF.out]; rfl, hbw2⟩
      · have hh := decode_high s pos (by omega)
        have hstep := noAny_run HN.out (Utf8.decode s pos).2 (fun j hj => ⟨by omega, hh.2 j hj⟩)
        have hr := hh.1
        have HS := Lib.hid hstep
        clear hstep hh
        go_wp2_with (go_at_call 90; refine (IdxRune_hi ((Utf8.decode s pos).1 : Int) _ (by omega)).mono ?_; rintro e w2 ⟨rfl, hb2⟩)
        have hit3 := (hb2.block _ (Array.getElem?_eq_some_iff.1 hit2).1).trans hit2
        go_roundw
        case rel => exact ⟨pos + (Utf8.decode s pos).2, hit3, below_then hbw2 hbw2.size hb2, hwi, HS.out⟩
        case measure =>
          simp only [World.iterPos, hit3, hit]
          omega
    · have hnx : ∀ ty, (Instr.next (.pointer (some ⟨w.heap.size, 0, none⟩)) true ty).run Tryz.prog wr = _ := fun ty => Lib.run_next_end_at wr w.heap.size _ pos ty hit hp
      obtain rfl : pos = s.size := by omega
      have hfin := Lib.indexAny_none (s := s.data.toList) (chars := [44, 45]) (by rw [← Lib.size_eq]; exact HN.out)
      have HF := Lib.hid hfin
      clear hfin
      go_wp2
      go_ret
      exact ⟨by rw [HF.out]; rfl, hbw⟩
theorem info_set : (Tryz.prog.info? 99).map (fun i => (i.zero, i.size)) = some (some (.agg (Array.replicate 256 (.bool false))), 256) := by kernel_rfl
theorem zeroSet (w : World) : (zeroValue 99).run Tryz.prog w = .ok (.agg (Array.replicate 256 (.bool false))) w := (zero_of_info info_set).1 w
/-- strings.IndexAny(s, ",-"). -/
theorem IdxAny_any (s : ByteArray) (w : World) (hs : s.size ≤ 4294967200) :
    Calls Tryz.prog 64 #[.string s, .string ⟨#[44, 45]⟩] w fun e w' => e = .returned (.int .i64 (Lib.indexAny s.data.toList [44, 45])) ∧ Below w.heap.size w w' := by
  by_cases h8 : s.size ≤ 8
  · exact IdxAny_short s w h8
  · refine (Tryz.strings_IndexAny_long zeroSet s ⟨#[44, 45]⟩ w (by decide) (by omega) (by omega) (by decide) ?_).mono ?_
    · intro j b hb
      rcases j with _ | _ | j
      · simp at hb; subst hb; decide
      · simp at hb; subst hb; decide
      · simp at hb
    · rintro e w' ⟨he, rfl⟩
      exact ⟨he, ((Below.refl _ _).alloc (Nat.le_refl _) _).alloc (by simp) _⟩
end Go.Proofs.YtbjgfjmknnbahaaGreatDoor

/- Contract: clue.sizes. -/
set_option linter.unusedVariables false
set_option linter.unusedSimpArgs false
namespace Go.Proofs.YtbjgfjmknnbahaaGreatDoor
open Go.RowKit

/-- A scope with one label: the run up to it, and one pass from it. -/
theorem wp_scope_one {P : Program} {a : Act} {w : World} {Q : Exit → Act → World → Prop} {c rest : Code} (l : Nat) (J : Act → World → Prop) (μ : Act → World → Nat) (hf : findLabel c l = some (Code.skip.seq rest))
    (enter : ∀ K : Exit → Act → World → Prop, (∀ a w, J a w → rest.wp P K a w) → c.wp P K a w)
    (pass : ∀ a w, J a w → rest.wp P (Exit.jump l (fun a' w' => J a' w' ∧ μ a' w' < μ a w) Q) a w) : (Code.scope c).wp P Q a w := by
  refine wp_scope_jumps l J μ hf (enter _ fun a w h => wp_mono (pass a w h) ?_) fun a w h => wp_seq (wp_skip (pass a w h))
  intro e a w h
  cases e with
  | goto l' => exact ⟨h.1, h.2.1⟩
  | _ => exact h
def strSize : Value → Nat
  | .string t => t.size
  | _ => 0
theorem cut_val {t : ByteArray} {v : Int} (h : Lib.atoiAll (t.extract 0 (cutJ t)).data.toList = .ok v) (h2 : ¬ 2 < cutJ t) (h0 : 49 ≤ (t.get! 0).toNat) (h1 : (t.get! 0).toNat ≤ 57) : ∃ n : Nat, v = n ∧ n ≤ 99 := by
  obtain ⟨c1, c2, c3⟩ := cutJ_spec t
  generalize cutJ t = j at h h2 c1
  rcases (show j = 0 ∨ j = 1 ∨ j = 2 by omega) with rfl | rfl | rfl
  · rw [ByteArray.extract_same] at h
    cases h
  · rw [piece1 t c1, atoi_1 _ h0 h1] at h
    injection h with h
    exact ⟨_, h.symm, by omega⟩
  · rw [piece2 t c1] at h
    by_cases hd : 48 ≤ (t.get! 1).toNat ∧ (t.get! 1).toNat ≤ 57
    · rw [atoi_2 _ _ h0 h1 hd.1 hd.2] at h
      injection h with h
      exact ⟨_, h.symm, by omega⟩
    · rw [atoi_2n _ _ h0 h1 hd] at h
      cases h
theorem cut_first {t : ByteArray} {v : Int} (h : Lib.atoiAll (t.extract 0 (cutJ t)).data.toList = .ok v) : 0 < cutJ t := by
  rcases Nat.eq_zero_or_pos (cutJ t) with h0 | h0
  · rw [h0, ByteArray.extract_same] at h
    cases h
  · exact h0
theorem rd_snoc {w : World} {A : Option Addr} {l : List Nat} {n : Nat} (h : Rd w 1 A (l.length + 1) (l.map eI ++ [eI n])) : Rd w 1 A (l.length + 1) (((l ++ [n]).map Int.ofNat).map eZ) := by
  have e : ((l ++ [n]).map Int.ofNat).map eZ = l.map eI ++ [eI n] := by
    rw [List.map_map, List.map_append]
    rfl
  rw [e]
  exact h
/-- What holds at the label. -/
def AtSize (w : World) (s : ByteArray) (R : Option (List Nat × ByteArray)) (a' : Act) (w' : World) : Prop :=
  ∃ (f : Nat) (t : ByteArray) (l : List Nat) (mk : ByteArray) (v u1 u5 u6 u7 u8 u9 u10 u11 u12 u13 u14 u15 u16 u17 u18 u19 u20 u21 u22 u23 u24 u25 u26 u27 u28 u29 u30 u31 u32 u33 u34 u35 u36 u37 u38 u39 u40 u41 u42 u43 u44 u45 u46 u47 u48 u49 u50 u51 u52 u53 u54 u55 u56 u57 u58 u59 u60 u61 u62 u63 : Value), a' = { tmps := #[.string t, u1, v, .string mk, .bool false, u5, u6, u7, u8, u9, u10, u11, u12, u13, u14, u15, u16, u17, u18, u19, u20, u21, u22, u23, u24, u25, u26, u27, u28, u29, u30, u31, u32, u33, u34, u35, u36, u37, u38, u39, u40, u41, u42, u43, u44, u45, u46, u47, u48, u49, u50, u51, u52, u53, u54, u55, u56, u57, u58, u59, u60, u61, u62, u63], defers := [] } ∧ sizesG f t l mk = R ∧ t.size < f ∧ w'.ownsRow w.heap.size 3 1 v l.length (l.map eI) ∧ l.length + t.size ≤ s.size ∧ mk.size + t.size ≤ s.size ∧ Below w.heap.size w w' ∧ Vars w'
set_option maxHeartbeats 8000000 in
set_option maxRecDepth 100000 in
theorem Sizes_any (s : ByteArray) (w : World) (hs : s.size ≤ 4294967200) (hv : Vars w) :
    Calls Tryz.prog 29 #[.string s] w fun e w' => SizesTold w w' (sizesF s) e := by
  obtain ⟨i0, hi, hz0, hz1, hz2⟩ := info_parts info_i64
  have hR := sizesG_all s
  generalize sizesF s = R at hR ⊢
  have HR := Lib.hid hR
  clear hR
  go_enter Tryz.func29, Tryz.ntmps29
  go_wp2
  refine wp_scope_one 0 (AtSize w s R) (fun a' _ => strSize (a'.tmps.getD 0 undef)) rfl ?_ ?_
  · intro K hK
    go_wp2
    rename_i K1 h1
    go_step3
    refine h1 _ _ (hK _ _ ?_)
    exact ⟨s.size + 1, s, [], ByteArray.empty, .slice none 0 0, _, _, _, _, _, _, _, _, _, _, _, _, _, _, _, _, _, _, _, _, _, _, _, _, _, _, _, _, _, _, _, _, _, _, _, _, _, _, _, _, _, _, _, _, _, _, _, _, _, _, _, _, _, _, _, _, _, _, _, _, rfl, HR.out, by omega, World.ownsRow_nil _ _ _ _, by simp, by simp, Below.refl _ _, hv⟩
  · rintro a' wr ⟨f, t, l, mk, v, u1, u5, u6, u7, u8, u9, u10, u11, u12, u13, u14, u15, u16, u17, u18, u19, u20, u21, u22, u23, u24, u25, u26, u27, u28, u29, u30, u31, u32, u33, u34, u35, u36, u37, u38, u39, u40, u41, u42, u43, u44, u45, u46, u47, u48, u49, u50, u51, u52, u53, u54, u55, u56, u57, u58, u59, u60, u61, u62, u63, rfl, hg, htf, hown, hll, hml, hbw, hvr⟩
    have hsz := hbw.size
    obtain ⟨f, rfl⟩ : ∃ f', f = f' + 1 := ⟨f - 1, by omega⟩
    rw [sizesG] at hg
    obtain ⟨c1, c2, c3⟩ := cutJ_spec t
    have hI : (Lib.indexAny t.data.toList [44, 45] = -1 ∧ cutJ t = t.size) ∨ (∃ i : Nat, Lib.indexAny t.data.toList [44, 45] = i ∧ cutJ t = i ∧ i < t.size) := by
      have hc : cutJ t = if Lib.indexAny t.data.toList [44, 45] < 0 then t.size else (Lib.indexAny t.data.toList [44, 45]).toNat := rfl
      rcases idxAny_spec [44, 45] t.data.toList with ⟨h1, h2⟩ | ⟨i, h1, ⟨b, h2, h3⟩, h4⟩
      · rw [h1, if_pos (by omega)] at hc
        exact .inl ⟨h1, hc⟩
      · rw [h1, if_neg (by omega), Int.toNat_natCast] at hc
        have := (List.getElem?_eq_some_iff.1 h2).1
        rw [← Lib.size_eq] at this
        exact .inr ⟨i, h1, hc, this⟩
    have HX := Lib.hid (fun W => IdxAny_any t W (by omega))
    have hb := bang_at t 0
    have hb9 := (t.get! 0).toNat_lt
    have hps : (t.extract 0 (cutJ t)).size ≤ 4294967296 := by rw [ByteArray.size_extract]; omega
    cases ha : Lib.atoiAll (t.extract 0 (cutJ t)).data.toList with
    | ok z =>
      rw [ha] at hg
      simp only at hg
      have hj0 := cut_first ha
      have ht0 : 0 < t.size := by omega
      have HAt := Lib.hid (fun W => Atoi_good _ z W hps ha)
      by_cases hbad : 2 < cutJ t ∨ (t.get! 0).toNat < 49 ∨ 57 < (t.get! 0).toNat
      · rw [if_pos hbad] at hg
        have Hg := Lib.hid hg
        clear hg ha hps c2 c3
        generalize (t.get! 0).toNat = B at hb hb9 hbad
        have hsp : 2 < cutJ t ∨ (cutJ t ≤ 2 ∧ B < 49) ∨ (cutJ t ≤ 2 ∧ 49 ≤ B ∧ 57 < B) := by omega
        clear hbad
        rcases hI with ⟨hI1, hI2⟩ | ⟨i, hI1, hI2, hI3⟩
        · rw [hI1] at HX
          rw [hI2] at hsp
          rw [hI2, ByteArray.extract_zero_size] at HAt
          clear hI1 hI2 c1 hj0
          rcases hsp with h1 | ⟨h1, h2⟩ | ⟨h1, h2, h3⟩
          all_goals (
            go_wp2_with (first | (go_at_call 64; refine (HX.out _).mono ?_; rintro e w2 ⟨rfl, hb2⟩; have hs2 := hb2.size; replace hown := own_keep hown hb2; replace hvr := hvr.keep hb2) | (go_at_call 65; refine (HAt.out _).mono ?_; rintro e w3 ⟨rfl, hb3⟩; have hs3 := hb3.size; replace hown := own_keep hown hb3; replace hvr := hvr.keep hb3))
            simp only [Exit.jump]
            go_ret3
            exact told_no (below_then (below_then hbw hsz hb2) (by omega) hb3) Hg.out.symm)
        · rw [hI1] at HX
          rw [hI2] at HAt hsp
          clear hI1 hI2 c1 hj0
          rcases hsp with h1 | ⟨h1, h2⟩ | ⟨h1, h2, h3⟩
          all_goals (
            go_wp2_with (first | (go_at_call 64; refine (HX.out _).mono ?_; rintro e w2 ⟨rfl, hb2⟩; have hs2 := hb2.size; replace hown := own_keep hown hb2; replace hvr := hvr.keep hb2) | (go_at_call 65; refine (HAt.out _).mono ?_; rintro e w3 ⟨rfl, hb3⟩; have hs3 := hb3.size; replace hown := own_keep hown hb3; replace hvr := hvr.keep hb3))
            simp only [Exit.jump]
            go_ret3
            exact told_no (below_then (below_then hbw hsz hb2) (by omega) hb3) Hg.out.symm)
      · rw [if_neg hbad] at hg
        obtain ⟨n, rfl, hn⟩ := cut_val ha (by omega) (by omega) (by omega)
        rw [Int.toNat_natCast] at hg
        clear ha hps c2 c3
        generalize (t.get! 0).toNat = B at hb hb9 hbad
        obtain ⟨h1, h2, h3⟩ : cutJ t ≤ 2 ∧ 49 ≤ B ∧ B ≤ 57 := by omega
        clear hbad
        rcases hI with ⟨hI1, hI2⟩ | ⟨i, hI1, hI2, hI3⟩
        · rw [hI1] at HX
          rw [hI2] at h1 hg
          rw [hI2, ByteArray.extract_zero_size] at HAt
          rw [if_neg (by omega)] at hg
          clear hI1 hI2 c1 hj0
          have HS := Lib.hid (fun A c W h => Sum_any A (l.length + 1) c ((l ++ [n]).map Int.ofNat) W h (by omega))
          have hoz : okZ ((l ++ [n]).map Int.ofNat) = okN (l ++ [n]) := rfl
          rw [hoz] at HS
          cases hok : okN (l ++ [n]) with
          | true =>
            rw [hok] at HS hg
            have Hg := Lib.hid hg
            clear hg hok hoz
            go_wp2_with (first | (go_at_call 64; refine (HX.out _).mono ?_; rintro e w2 ⟨rfl, hb2⟩; have hs2 := hb2.size; replace hown := own_keep hown hb2; replace hvr := hvr.keep hb2) | (go_at_call 65; refine (HAt.out _).mono ?_; rintro e w3 ⟨rfl, hb3⟩; have hs3 := hb3.size; replace hown := own_keep hown hb3; replace hvr := hvr.keep hb3) | (at_builtin; refine wpList_append_own _ rfl _ _ 24 rfl w.heap.size 3 i0 (.int .i64 0) 1 8 Tryz.underlying24 hi hz0 hz1 hz2 rfl (by decide) _ _ _ rfl (hown.alloc _) ⟨w3.heap.size, 0, none⟩ 1 1 [eI n] rfl rfl (cell_one_new _ _ _) (by simp [eI, Value.oneCell']) (by simp only [maxLen]; omega) (by omega) (by simp; omega) ?_; intro v' w4 hown4 hg4 hn4; obtain ⟨A4, c4, rfl, q1, q2, hrd4⟩ := own_rd hown4) | (go_at_call 42; refine (HS.out _ _ _ (rd_snoc hrd4)).mono ?_; rintro e w5 ⟨⟨x, rfl, hx⟩, rfl⟩; clear hx))
            simp only [Exit.jump]
            go_ret3
            exact told_yes ((below_then (below_then hbw hsz hb2) (by omega) hb3).alloc (by omega) _ |>.grown hg4 (by simp; omega) (fun k e => (hown.lt k e).1)) Hg.out.symm (own_snoc hown4)
          | false =>
            rw [hok] at HS hg
            have Hg := Lib.hid hg
            clear hg hok hoz
            go_wp2_with (first | (go_at_call 64; refine (HX.out _).mono ?_; rintro e w2 ⟨rfl, hb2⟩; have hs2 := hb2.size; replace hown := own_keep hown hb2; replace hvr := hvr.keep hb2) | (go_at_call 65; refine (HAt.out _).mono ?_; rintro e w3 ⟨rfl, hb3⟩; have hs3 := hb3.size; replace hown := own_keep hown hb3; replace hvr := hvr.keep hb3) | (at_builtin; refine wpList_append_own _ rfl _ _ 24 rfl w.heap.size 3 i0 (.int .i64 0) 1 8 Tryz.underlying24 hi hz0 hz1 hz2 rfl (by decide) _ _ _ rfl (hown.alloc _) ⟨w3.heap.size, 0, none⟩ 1 1 [eI n] rfl rfl (cell_one_new _ _ _) (by simp [eI, Value.oneCell']) (by simp only [maxLen]; omega) (by omega) (by simp; omega) ?_; intro v' w4 hown4 hg4 hn4; obtain ⟨A4, c4, rfl, q1, q2, hrd4⟩ := own_rd hown4) | (go_at_call 42; refine (HS.out _ _ _ (rd_snoc hrd4)).mono ?_; rintro e w5 ⟨⟨x, rfl, hx⟩, rfl⟩; clear hx))
            simp only [Exit.jump]
            go_ret3
            exact told_no ((below_then (below_then hbw hsz hb2) (by omega) hb3).alloc (by omega) _ |>.grown hg4 (by simp; omega) (fun k e => (hown.lt k e).1)) Hg.out.symm
        · rw [hI1] at HX
          rw [hI2] at HAt h1 hg
          rw [if_pos hI3] at hg
          have Hg := Lib.hid hg
          have hx1 : (t.extract i (i + 1)).size = 1 := by rw [ByteArray.size_extract]; omega
          clear hI1 hI2 c1 hj0 hg
          go_wp2_with (first | (go_at_call 64; refine (HX.out _).mono ?_; rintro e w2 ⟨rfl, hb2⟩; have hs2 := hb2.size; replace hown := own_keep hown hb2; replace hvr := hvr.keep hb2) | (go_at_call 65; refine (HAt.out _).mono ?_; rintro e w3 ⟨rfl, hb3⟩; have hs3 := hb3.size; replace hown := own_keep hown hb3; replace hvr := hvr.keep hb3) | (at_builtin; refine wpList_append_own _ rfl _ _ 24 rfl w.heap.size 3 i0 (.int .i64 0) 1 8 Tryz.underlying24 hi hz0 hz1 hz2 rfl (by decide) _ _ _ rfl (hown.alloc _) ⟨w3.heap.size, 0, none⟩ 1 1 [eI n] rfl rfl (cell_one_new _ _ _) (by simp [eI, Value.oneCell']) (by simp only [maxLen]; omega) (by omega) (by simp; omega) ?_; intro v' w4 hown4 hg4 hn4; obtain ⟨A4, c4, rfl, q1, q2, hrd4⟩ := own_rd hown4))
          go_step3
          refine ⟨rfl, ⟨f, t.extract (i + 1) t.size, l ++ [n], mk ++ t.extract i (i + 1), _, _, _, _, _, _, _, _, _, _, _, _, _, _, _, _, _, _, _, _, _, _, _, _, _, _, _, _, _, _, _, _, _, _, _, _, _, _, _, _, _, _, _, _, _, _, _, _, _, _, _, _, _, _, _, _, _, _, _, _, _, rfl, Hg.out, by rw [ByteArray.size_extract]; omega, own_snoc hown4, by rw [ByteArray.size_extract, List.length_append, List.length_singleton]; omega, by rw [ByteArray.size_extract, ByteArray.size_append]; omega, ?_, ?_⟩, ?_⟩
          · exact ((below_then (below_then hbw hsz hb2) (by omega) hb3).alloc (by omega) _ |>.grown hg4 (by simp; omega) (fun k e => (hown.lt k e).1))
          · exact hv.keep ((below_then (below_then hbw hsz hb2) (by omega) hb3).alloc (by omega) _ |>.grown hg4 (by simp; omega) (fun k e => (hown.lt k e).1))
          · show (t.extract (i + 1) t.size).size < t.size
            rw [ByteArray.size_extract]; omega
    | _ =>
      rw [ha] at hg
      simp only at hg
      have Hg := Lib.hid hg
      have HAt := Lib.hid (fun W (h : Vars W) => Atoi_bad (t.extract 0 (cutJ t)) W hps h (by intro v; rw [ha]; exact fun h => by cases h))
      clear hg ha hps c2 c3
      rcases hI with ⟨hI1, hI2⟩ | ⟨i, hI1, hI2, hI3⟩
      · rw [hI1] at HX
        rw [hI2, ByteArray.extract_zero_size] at HAt
        clear hI1 hI2 c1
        go_wp2_with (first | (go_at_call 64; refine (HX.out _).mono ?_; rintro e w2 ⟨rfl, hb2⟩; have hs2 := hb2.size; replace hown := own_keep hown hb2; replace hvr := hvr.keep hb2) | (go_at_call 65; refine (HAt.out _ hvr).mono ?_; rintro e w3 ⟨⟨x, N, rfl⟩, hb3⟩; have hs3 := hb3.size))
        simp only [Exit.jump]
        go_ret3
        exact told_no (below_then (below_then hbw hsz hb2) (by omega) hb3) Hg.out.symm
      · rw [hI1] at HX
        rw [hI2] at HAt
        clear hI1 hI2 c1
        go_wp2_with (first | (go_at_call 64; refine (HX.out _).mono ?_; rintro e w2 ⟨rfl, hb2⟩; have hs2 := hb2.size; replace hown := own_keep hown hb2; replace hvr := hvr.keep hb2) | (go_at_call 65; refine (HAt.out _ hvr).mono ?_; rintro e w3 ⟨⟨x, N, rfl⟩, hb3⟩; have hs3 := hb3.size))
        simp only [Exit.jump]
        go_ret3
        exact told_no (below_then (below_then hbw hsz hb2) (by omega) hb3) Hg.out.symm
end Go.Proofs.YtbjgfjmknnbahaaGreatDoor

/- The iterator of utf.All: for every loop body. -/
set_option linter.unusedVariables false
set_option linter.unusedSimpArgs false
namespace Go.Proofs.YtbjgfjmknnbahaaGreatDoor
open Go.RowKit Go.Shelf

/-- A place of a text, and a rune. -/
abbrev PR (s : ByteArray) := { x : Nat × Nat // x.1 < s.size ∧ x.2 ≤ 1114111 }
abbrev encP {s : ByteArray} (x : PR s) : Array Value := #[.int .i64 (x.1.1 : Int), .int .i32 (x.1.2 : Int)]
theorem grown_iterAt (w : World) (k : Nat) (s : ByteArray) (pos : Nat) : w.grownBy (w.iterAt k s pos) (some k) :=
  ⟨rfl, rfl, rfl, by rw [Lib.iterAt_size]; exact Nat.le_refl _, fun i _ hne => Lib.iterAt_other w k i s pos (fun e => hne (by rw [e]))⟩

set_option maxHeartbeats 2000000 in
set_option maxRecDepth 100000 in
theorem All_stops (F : Fence) (n : Nat) (hF : F.fn 80) (hro : F.round = none) (hn : 1 ≤ n) (Bn : Nat) (s : ByteArray) (w : World) (hBn : w.cell? ⟨Bn, 0, none⟩ = some (.string s)) (hs : s.size ≤ 4294967296) :
    SeqStopsK F n Tryz.prog 80 #[.pointer (some ⟨Bn, 0, none⟩)] (encP (s := s)) KeepsWalks (fun xs => xs.map (·.1) = seqs s) (fun pre => pre.map (·.1) <+: seqs s) (seqs s).length w := fun l J Jx W hW hJ hJx hY h0 => by
  have hc : W.cell? ⟨Bn, 0, none⟩ = some (.string s) := (hW.cell (World.block_lt_of_cell? w _ hBn)).trans hBn
  refine callsIn_of_wp Tryz.func80 rfl hF ?_ hro
  simp only [Tryz.ntmps80, List.size_toArray, List.length_cons, List.length_nil, Nat.reduceAdd, Nat.reduceSub, Array.replicate_succ, Array.replicate_zero, List.push_toArray, List.append_toArray, List.nil_append, List.cons_append]
  gi_wp2
  gi_loopw [] (fun wr => ∃ (pos f : Nat) (pre : List (PR s)), wr.heap[W.heap.size]? = some (.stringIter s pos) ∧ pre.map (·.1) ++ seqFrom s f pos = seqs s ∧ s.size ≤ pos + f ∧ J pre wr) (fun wr => s.size - wr.iterPos W.heap.size)
  case atStart =>
    refine ⟨0, s.size, [], World.iter_heap W s 0, rfl, by omega, ?_⟩
    exact hJ [] W _ none h0 (World.grownBy_alloc W _ none) (fun r e => by cases e)
  case round =>
    obtain ⟨pos, f, pre, hit, hacc, hfu, hJr⟩ := hrel
    by_cases hp : pos < s.size
    · have hnx : ∀ ty, (Instr.next (.pointer (some ⟨W.heap.size, 0, none⟩)) true ty).run Tryz.prog wr = _ := fun ty => Lib.run_next_any_at wr W.heap.size s pos ty hit hp
      have hwd := width_pos s pos hp
      obtain ⟨f, rfl⟩ : ∃ f', f = f' + 1 := ⟨f - 1, by omega⟩
      have hit2 := Lib.iterAt_heap wr W.heap.size s pos (pos + (Utf8.decode s pos).2) hit
      have hJ2 : J pre (wr.iterAt W.heap.size s (pos + (Utf8.decode s pos).2)) := hJ pre wr _ (some W.heap.size) hJr (grown_iterAt _ _ _ _) (fun r e => by cases e; exact ⟨Nat.le_refl _, _, hit, rfl⟩)
      obtain ⟨x, hx⟩ : ∃ x : PR s, x = ⟨(pos, (Utf8.decode s pos).1), hp, rune_le s pos⟩ := ⟨_, rfl⟩
      have hx1 : x.1 = (pos, (Utf8.decode s pos).1) := by rw [hx]
      have hacc' : (pre ++ [x]).map (·.1) ++ seqFrom s f (pos + (Utf8.decode s pos).2) = seqs s := by rw [← hacc]; simp [seqFrom, hp, hx1]
      have hlen : pre.length < (seqs s).length := by rw [← hacc']; simp
      have Hacc := Lib.hid hacc'
      clear hacc hacc'
      obtain ⟨fn, tmps, assign, body, hy, hR⟩ := hY pre x _ hJ2 hlen
      simp only [encP, hx1] at hy
      have Hx1 := Lib.hid hx1
      clear hx1 hx
      gi_wp2
      refine hR.mono ?_
      rintro e W3 (⟨rfl, hJ3, hk3⟩ | ⟨rfl, hJx3⟩)
      · have hit3 : W3.heap[W.heap.size]? = some (.stringIter s (pos + (Utf8.decode s pos).2)) := hk3.same _ _ hit2 rfl
        gi_wp2
        go_roundw
        case rel => exact ⟨pos + (Utf8.decode s pos).2, f, pre ++ [x], hit3, Hacc.out, by omega, hJ3⟩
        case measure =>
          simp only [World.iterPos, hit3, hit]
          omega
      · gi_wp2
        refine bodyPost_ret (results_none rfl _ _ _) rfl ?_
        exact ⟨⟨_, rfl⟩, .inr ⟨pre ++ [x], ⟨_, Hacc.out⟩, hJx3⟩⟩
    · have hnx : ∀ ty, (Instr.next (.pointer (some ⟨W.heap.size, 0, none⟩)) true ty).run Tryz.prog wr = _ := fun ty => Lib.run_next_end_at wr W.heap.size s pos ty hit hp
      rw [seqFrom_end s f pos hp, List.append_nil] at hacc
      have Hacc := Lib.hid hacc
      clear hacc
      gi_wp2
      go_end0
      exact ⟨⟨_, rfl⟩, .inl ⟨pre, Hacc.out, hJr⟩⟩
end Go.Proofs.YtbjgfjmknnbahaaGreatDoor

/- Walks of rebus/fold.Plain at single runes. Printed by wip/gen/gen_plain.py. -/
set_option linter.unusedVariables false
set_option linter.unusedSimpArgs false
namespace Go.Proofs.YtbjgfjmknnbahaaGreatDoor
open Go.RowKit

set_option maxHeartbeats 8000000 in
set_option maxRecDepth 100000 in
theorem Plain_0_0 (r : Int) (w : World) (h : r ∈ cap_0_0) :
    Calls Tryz.prog 50 #[.int .i32 r] w fun e w' => e = .returned (.string (pln r)) ∧ w = w' := by
  simp only [cap_0_0, List.mem_cons, List.not_mem_nil, or_false] at h
  rcases h with rfl | rfl | rfl | rfl | rfl | rfl | rfl | rfl
  all_goals (go_enter Tryz.func50, Tryz.ntmps50; go_wp2; go_ret; exact ⟨rfl, rfl⟩)
set_option maxHeartbeats 8000000 in
set_option maxRecDepth 100000 in
theorem Plain_0_1 (r : Int) (w : World) (h : r ∈ cap_0_1) :
    Calls Tryz.prog 50 #[.int .i32 r] w fun e w' => e = .returned (.string (pln r)) ∧ w = w' := by
  simp only [cap_0_1, List.mem_cons, List.not_mem_nil, or_false] at h
  rcases h with rfl | rfl | rfl | rfl | rfl | rfl | rfl | rfl
  all_goals (go_enter Tryz.func50, Tryz.ntmps50; go_wp2; go_ret; exact ⟨rfl, rfl⟩)
set_option maxHeartbeats 8000000 in
set_option maxRecDepth 100000 in
theorem Plain_0_2 (r : Int) (w : World) (h : r ∈ cap_0_2) :
    Calls Tryz.prog 50 #[.int .i32 r] w fun e w' => e = .returned (.string (pln r)) ∧ w = w' := by
  simp only [cap_0_2, List.mem_cons, List.not_mem_nil, or_false] at h
  rcases h with rfl | rfl | rfl | rfl | rfl | rfl | rfl | rfl
  all_goals (go_enter Tryz.func50, Tryz.ntmps50; go_wp2; go_ret; exact ⟨rfl, rfl⟩)
set_option maxHeartbeats 8000000 in
set_option maxRecDepth 100000 in
theorem Plain_0_3 (r : Int) (w : World) (h : r ∈ cap_0_3) :
    Calls Tryz.prog 50 #[.int .i32 r] w fun e w' => e = .returned (.string (pln r)) ∧ w = w' := by
  simp only [cap_0_3, List.mem_cons, List.not_mem_nil, or_false] at h
  rcases h with rfl
  all_goals (go_enter Tryz.func50, Tryz.ntmps50; go_wp2; go_ret; exact ⟨rfl, rfl⟩)
end Go.Proofs.YtbjgfjmknnbahaaGreatDoor

/- Walks of rebus/fold.Plain at single runes. Printed by wip/gen/gen_plain.py. -/
set_option linter.unusedVariables false
set_option linter.unusedSimpArgs false
namespace Go.Proofs.YtbjgfjmknnbahaaGreatDoor
open Go.RowKit

set_option maxHeartbeats 8000000 in
set_option maxRecDepth 100000 in
theorem Plain_1_0 (r : Int) (w : World) (h : r ∈ cap_1_0) :
    Calls Tryz.prog 50 #[.int .i32 r] w fun e w' => e = .returned (.string (pln r)) ∧ w = w' := by
  simp only [cap_1_0, List.mem_cons, List.not_mem_nil, or_false] at h
  rcases h with rfl | rfl | rfl | rfl | rfl | rfl | rfl | rfl
  all_goals (go_enter Tryz.func50, Tryz.ntmps50; go_wp2; go_ret; exact ⟨rfl, rfl⟩)
set_option maxHeartbeats 8000000 in
set_option maxRecDepth 100000 in
theorem Plain_1_1 (r : Int) (w : World) (h : r ∈ cap_1_1) :
    Calls Tryz.prog 50 #[.int .i32 r] w fun e w' => e = .returned (.string (pln r)) ∧ w = w' := by
  simp only [cap_1_1, List.mem_cons, List.not_mem_nil, or_false] at h
  rcases h with rfl | rfl | rfl | rfl | rfl | rfl | rfl | rfl
  all_goals (go_enter Tryz.func50, Tryz.ntmps50; go_wp2; go_ret; exact ⟨rfl, rfl⟩)
set_option maxHeartbeats 8000000 in
set_option maxRecDepth 100000 in
theorem Plain_1_2 (r : Int) (w : World) (h : r ∈ cap_1_2) :
    Calls Tryz.prog 50 #[.int .i32 r] w fun e w' => e = .returned (.string (pln r)) ∧ w = w' := by
  simp only [cap_1_2, List.mem_cons, List.not_mem_nil, or_false] at h
  rcases h with rfl | rfl | rfl | rfl | rfl | rfl | rfl | rfl
  all_goals (go_enter Tryz.func50, Tryz.ntmps50; go_wp2; go_ret; exact ⟨rfl, rfl⟩)
set_option maxHeartbeats 8000000 in
set_option maxRecDepth 100000 in
theorem Plain_1_3 (r : Int) (w : World) (h : r ∈ cap_1_3) :
    Calls Tryz.prog 50 #[.int .i32 r] w fun e w' => e = .returned (.string (pln r)) ∧ w = w' := by
  simp only [cap_1_3, List.mem_cons, List.not_mem_nil, or_false] at h
  rcases h with rfl
  all_goals (go_enter Tryz.func50, Tryz.ntmps50; go_wp2; go_ret; exact ⟨rfl, rfl⟩)
end Go.Proofs.YtbjgfjmknnbahaaGreatDoor

/- Walks of rebus/fold.Plain at single runes. Printed by wip/gen/gen_plain.py. -/
set_option linter.unusedVariables false
set_option linter.unusedSimpArgs false
namespace Go.Proofs.YtbjgfjmknnbahaaGreatDoor
open Go.RowKit

set_option maxHeartbeats 8000000 in
set_option maxRecDepth 100000 in
theorem Plain_2_0 (r : Int) (w : World) (h : r ∈ cap_2_0) :
    Calls Tryz.prog 50 #[.int .i32 r] w fun e w' => e = .returned (.string (pln r)) ∧ w = w' := by
  simp only [cap_2_0, List.mem_cons, List.not_mem_nil, or_false] at h
  rcases h with rfl | rfl | rfl | rfl | rfl | rfl | rfl | rfl
  all_goals (go_enter Tryz.func50, Tryz.ntmps50; go_wp2; go_ret; exact ⟨rfl, rfl⟩)
set_option maxHeartbeats 8000000 in
set_option maxRecDepth 100000 in
theorem Plain_2_1 (r : Int) (w : World) (h : r ∈ cap_2_1) :
    Calls Tryz.prog 50 #[.int .i32 r] w fun e w' => e = .returned (.string (pln r)) ∧ w = w' := by
  simp only [cap_2_1, List.mem_cons, List.not_mem_nil, or_false] at h
  rcases h with rfl | rfl | rfl | rfl | rfl | rfl | rfl | rfl
  all_goals (go_enter Tryz.func50, Tryz.ntmps50; go_wp2; go_ret; exact ⟨rfl, rfl⟩)
set_option maxHeartbeats 8000000 in
set_option maxRecDepth 100000 in
theorem Plain_2_2 (r : Int) (w : World) (h : r ∈ cap_2_2) :
    Calls Tryz.prog 50 #[.int .i32 r] w fun e w' => e = .returned (.string (pln r)) ∧ w = w' := by
  simp only [cap_2_2, List.mem_cons, List.not_mem_nil, or_false] at h
  rcases h with rfl | rfl | rfl | rfl | rfl | rfl | rfl | rfl
  all_goals (go_enter Tryz.func50, Tryz.ntmps50; go_wp2; go_ret; exact ⟨rfl, rfl⟩)
set_option maxHeartbeats 8000000 in
set_option maxRecDepth 100000 in
theorem Plain_2_3 (r : Int) (w : World) (h : r ∈ cap_2_3) :
    Calls Tryz.prog 50 #[.int .i32 r] w fun e w' => e = .returned (.string (pln r)) ∧ w = w' := by
  simp only [cap_2_3, List.mem_cons, List.not_mem_nil, or_false] at h
  rcases h with rfl
  all_goals (go_enter Tryz.func50, Tryz.ntmps50; go_wp2; go_ret; exact ⟨rfl, rfl⟩)
end Go.Proofs.YtbjgfjmknnbahaaGreatDoor

/- Walks of rebus/fold.Plain at single runes. Printed by wip/gen/gen_plain.py. -/
set_option linter.unusedVariables false
set_option linter.unusedSimpArgs false
namespace Go.Proofs.YtbjgfjmknnbahaaGreatDoor
open Go.RowKit

set_option maxHeartbeats 8000000 in
set_option maxRecDepth 100000 in
theorem Plain_3_0 (r : Int) (w : World) (h : r ∈ cap_3_0) :
    Calls Tryz.prog 50 #[.int .i32 r] w fun e w' => e = .returned (.string (pln r)) ∧ w = w' := by
  simp only [cap_3_0, List.mem_cons, List.not_mem_nil, or_false] at h
  rcases h with rfl | rfl | rfl | rfl | rfl | rfl | rfl | rfl
  all_goals (go_enter Tryz.func50, Tryz.ntmps50; go_wp2; go_ret; exact ⟨rfl, rfl⟩)
set_option maxHeartbeats 8000000 in
set_option maxRecDepth 100000 in
theorem Plain_3_1 (r : Int) (w : World) (h : r ∈ cap_3_1) :
    Calls Tryz.prog 50 #[.int .i32 r] w fun e w' => e = .returned (.string (pln r)) ∧ w = w' := by
  simp only [cap_3_1, List.mem_cons, List.not_mem_nil, or_false] at h
  rcases h with rfl | rfl | rfl | rfl | rfl | rfl | rfl | rfl
  all_goals (go_enter Tryz.func50, Tryz.ntmps50; go_wp2; go_ret; exact ⟨rfl, rfl⟩)
set_option maxHeartbeats 8000000 in
set_option maxRecDepth 100000 in
theorem Plain_3_2 (r : Int) (w : World) (h : r ∈ cap_3_2) :
    Calls Tryz.prog 50 #[.int .i32 r] w fun e w' => e = .returned (.string (pln r)) ∧ w = w' := by
  simp only [cap_3_2, List.mem_cons, List.not_mem_nil, or_false] at h
  rcases h with rfl | rfl | rfl | rfl | rfl | rfl | rfl | rfl
  all_goals (go_enter Tryz.func50, Tryz.ntmps50; go_wp2; go_ret; exact ⟨rfl, rfl⟩)
end Go.Proofs.YtbjgfjmknnbahaaGreatDoor

/- Walks of rebus/rebusref02.Plain at single runes. Printed by wip/gen/gen_plain.py. -/
set_option linter.unusedVariables false
set_option linter.unusedSimpArgs false
namespace Go.Proofs.YtbjgfjmknnbahaaGreatDoor
open Go.RowKit

set_option maxHeartbeats 8000000 in
set_option maxRecDepth 100000 in
theorem RefPlain_0_0 (r : Int) (w : World) (h : r ∈ cap_0_0) :
    Calls Tryz.prog 69 #[.int .i32 r] w fun e w' => e = .returned (.string (pln r)) ∧ Below w.heap.size w w' := by
  simp only [cap_0_0, List.mem_cons, List.not_mem_nil, or_false] at h
  rcases h with rfl | rfl | rfl | rfl | rfl | rfl | rfl | rfl
  all_goals (go_enter Tryz.func69, Tryz.ntmps69; go_wp2_with (first | (go_at_call 70; refine (RefEncode_any _ _ (by omega) (by omega)).mono ?_; rintro e w' ⟨rfl, hb⟩) | go_in))
  all_goals (go_ret; exact ⟨rfl, by first | assumption | exact Below.refl _ _⟩)
set_option maxHeartbeats 8000000 in
set_option maxRecDepth 100000 in
theorem RefPlain_0_1 (r : Int) (w : World) (h : r ∈ cap_0_1) :
    Calls Tryz.prog 69 #[.int .i32 r] w fun e w' => e = .returned (.string (pln r)) ∧ Below w.heap.size w w' := by
  simp only [cap_0_1, List.mem_cons, List.not_mem_nil, or_false] at h
  rcases h with rfl | rfl | rfl | rfl | rfl | rfl | rfl | rfl
  all_goals (go_enter Tryz.func69, Tryz.ntmps69; go_wp2_with (first | (go_at_call 70; refine (RefEncode_any _ _ (by omega) (by omega)).mono ?_; rintro e w' ⟨rfl, hb⟩) | go_in))
  all_goals (go_ret; exact ⟨rfl, by first | assumption | exact Below.refl _ _⟩)
set_option maxHeartbeats 8000000 in
set_option maxRecDepth 100000 in
theorem RefPlain_0_2 (r : Int) (w : World) (h : r ∈ cap_0_2) :
    Calls Tryz.prog 69 #[.int .i32 r] w fun e w' => e = .returned (.string (pln r)) ∧ Below w.heap.size w w' := by
  simp only [cap_0_2, List.mem_cons, List.not_mem_nil, or_false] at h
  rcases h with rfl | rfl | rfl | rfl | rfl | rfl | rfl | rfl
  all_goals (go_enter Tryz.func69, Tryz.ntmps69; go_wp2_with (first | (go_at_call 70; refine (RefEncode_any _ _ (by omega) (by omega)).mono ?_; rintro e w' ⟨rfl, hb⟩) | go_in))
  all_goals (go_ret; exact ⟨rfl, by first | assumption | exact Below.refl _ _⟩)
set_option maxHeartbeats 8000000 in
set_option maxRecDepth 100000 in
theorem RefPlain_0_3 (r : Int) (w : World) (h : r ∈ cap_0_3) :
    Calls Tryz.prog 69 #[.int .i32 r] w fun e w' => e = .returned (.string (pln r)) ∧ Below w.heap.size w w' := by
  simp only [cap_0_3, List.mem_cons, List.not_mem_nil, or_false] at h
  rcases h with rfl
  all_goals (go_enter Tryz.func69, Tryz.ntmps69; go_wp2_with (first | (go_at_call 70; refine (RefEncode_any _ _ (by omega) (by omega)).mono ?_; rintro e w' ⟨rfl, hb⟩) | go_in))
  all_goals (go_ret; exact ⟨rfl, by first | assumption | exact Below.refl _ _⟩)
end Go.Proofs.YtbjgfjmknnbahaaGreatDoor

/- Walks of rebus/rebusref02.Plain at single runes. Printed by wip/gen/gen_plain.py. -/
set_option linter.unusedVariables false
set_option linter.unusedSimpArgs false
namespace Go.Proofs.YtbjgfjmknnbahaaGreatDoor
open Go.RowKit

set_option maxHeartbeats 8000000 in
set_option maxRecDepth 100000 in
theorem RefPlain_1_0 (r : Int) (w : World) (h : r ∈ cap_1_0) :
    Calls Tryz.prog 69 #[.int .i32 r] w fun e w' => e = .returned (.string (pln r)) ∧ Below w.heap.size w w' := by
  simp only [cap_1_0, List.mem_cons, List.not_mem_nil, or_false] at h
  rcases h with rfl | rfl | rfl | rfl | rfl | rfl | rfl | rfl
  all_goals (go_enter Tryz.func69, Tryz.ntmps69; go_wp2_with (first | (go_at_call 70; refine (RefEncode_any _ _ (by omega) (by omega)).mono ?_; rintro e w' ⟨rfl, hb⟩) | go_in))
  all_goals (go_ret; exact ⟨rfl, by first | assumption | exact Below.refl _ _⟩)
set_option maxHeartbeats 8000000 in
set_option maxRecDepth 100000 in
theorem RefPlain_1_1 (r : Int) (w : World) (h : r ∈ cap_1_1) :
    Calls Tryz.prog 69 #[.int .i32 r] w fun e w' => e = .returned (.string (pln r)) ∧ Below w.heap.size w w' := by
  simp only [cap_1_1, List.mem_cons, List.not_mem_nil, or_false] at h
  rcases h with rfl | rfl | rfl | rfl | rfl | rfl | rfl | rfl
  all_goals (go_enter Tryz.func69, Tryz.ntmps69; go_wp2_with (first | (go_at_call 70; refine (RefEncode_any _ _ (by omega) (by omega)).mono ?_; rintro e w' ⟨rfl, hb⟩) | go_in))
  all_goals (go_ret; exact ⟨rfl, by first | assumption | exact Below.refl _ _⟩)
set_option maxHeartbeats 8000000 in
set_option maxRecDepth 100000 in
theorem RefPlain_1_2 (r : Int) (w : World) (h : r ∈ cap_1_2) :
    Calls Tryz.prog 69 #[.int .i32 r] w fun e w' => e = .returned (.string (pln r)) ∧ Below w.heap.size w w' := by
  simp only [cap_1_2, List.mem_cons, List.not_mem_nil, or_false] at h
  rcases h with rfl | rfl | rfl | rfl | rfl | rfl | rfl | rfl
  all_goals (go_enter Tryz.func69, Tryz.ntmps69; go_wp2_with (first | (go_at_call 70; refine (RefEncode_any _ _ (by omega) (by omega)).mono ?_; rintro e w' ⟨rfl, hb⟩) | go_in))
  all_goals (go_ret; exact ⟨rfl, by first | assumption | exact Below.refl _ _⟩)
set_option maxHeartbeats 8000000 in
set_option maxRecDepth 100000 in
theorem RefPlain_1_3 (r : Int) (w : World) (h : r ∈ cap_1_3) :
    Calls Tryz.prog 69 #[.int .i32 r] w fun e w' => e = .returned (.string (pln r)) ∧ Below w.heap.size w w' := by
  simp only [cap_1_3, List.mem_cons, List.not_mem_nil, or_false] at h
  rcases h with rfl
  all_goals (go_enter Tryz.func69, Tryz.ntmps69; go_wp2_with (first | (go_at_call 70; refine (RefEncode_any _ _ (by omega) (by omega)).mono ?_; rintro e w' ⟨rfl, hb⟩) | go_in))
  all_goals (go_ret; exact ⟨rfl, by first | assumption | exact Below.refl _ _⟩)
end Go.Proofs.YtbjgfjmknnbahaaGreatDoor
