/-
  Proved: for every clue and answer, clue.Cut gives the document's pieces, each has as many runes as its size says, and together they are the answer's letters. The conditions: what is read is of bulk at most 1048576; the row's own (the seven package-level variables that it lists hold what the program's text lays).
-/
import Derived.Test.YtbjgfjmknnbahaaGreatDoorC1
import Derived.Test.YtbjgfjmknnbahaaGreatDoorR8
import Derived.Test.YtbjgfjmknnbahaaGreatDoorR3
import Derived.Test.YtbjgfjmknnbahaaGreatDoorR11
import Derived.Test.YtbjgfjmknnbahaaGreatDoorR9
import Derived.Deep.RegionHeldLaw
import Derived.Deep.RegionHeld3
import Derived.Deep.RegionLawGrows
import Derived.Test.YtbjgfjmknnbahaaGreatDoorR2
import Derived.Carry
/- Contract: rebusref16.Cut. -/
set_option linter.unusedVariables false
set_option linter.unusedSimpArgs false
namespace Go.Proofs.YtbjgfjmknnbahaaGreatDoor
open Go.RowKit

/-- What is told of a cut: nothing, or the pieces. -/
def CutTold (w w' : World) (bad : Bool) (l : List ByteArray) (e : Ending) : Prop :=
  Below w.heap.size w w' ∧ ((bad = true ∧ e = .returned (.tuple #[.slice none 0 0, .bool false])) ∨ (bad = false ∧ ∃ A c, e = .returned (.tuple #[.slice A l.length c, .bool true]) ∧ l.length ≤ c ∧ c ≤ maxLen ∧ Rd w' 1 A l.length (l.map eS)))
theorem cut_no {w w' : World} {bad : Bool} {l : List ByteArray} (hb : Below w.heap.size w w') (h : bad = true) : CutTold w w' bad l (.returned (.tuple #[.slice none 0 0, .bool false])) := ⟨hb, .inl ⟨h, rfl⟩⟩
theorem cut_yes {w w' : World} {bad : Bool} {l acc : List ByteArray} {v : Value} {B : Nat} (hb : Below w.heap.size w w') (h : bad = false) (ho : w'.ownsRow B 9 1 v acc.length (acc.map eS)) (ha : acc = l) : CutTold w w' bad l (.returned (.tuple #[v, .bool true])) := by
  subst ha
  obtain ⟨A, c, rfl, h1, h2, h3⟩ := own_rd ho
  exact ⟨hb, .inr ⟨h, A, c, rfl, h1, h2, h3⟩⟩
theorem Rd.sub {α : Type} {f : α → Value} {w : World} {b o n a z : Nat} {L : List α} (h : Rd w 1 (some ⟨b, o, none⟩) n (L.map f)) (hn : 0 < n) (haz : a + z ≤ n) : Rd w 1 (some ⟨b, o + a, none⟩) z (((L.drop a).take z).map f) := by
  have hl : L.length = n := by have := h.1; simpa using this
  refine ⟨by simp; omega, fun _ => ⟨b, o + a, rfl, fun j u hu => ?_⟩⟩
  obtain ⟨b', o', e, hc⟩ := h.2 hn
  injection e with e
  injection e with e1 e2
  subst e1 e2
  rw [Nat.add_assoc]
  refine hc (a + j) u ?_
  rw [List.getElem?_map, List.getElem?_take] at hu
  split at hu
  · rw [List.getElem?_drop] at hu
    rw [List.getElem?_map]
    exact hu
  · cases hu
theorem own_snocS {w : World} {B E k : Nat} {v : Value} {l : List ByteArray} {x : ByteArray} (h : w.ownsRow B E k v (l.length + 1) (l.map eS ++ [eS x])) : w.ownsRow B E k v (l ++ [x]).length ((l ++ [x]).map eS) := by
  rw [List.length_append, List.map_append]; exact h

set_option maxHeartbeats 4000000 in
set_option maxRecDepth 100000 in
theorem RefCut_any (v : Value) (ws : List ByteArray) (zs : List Int) (mk s : ByteArray) (w : World) (hc : IsClue w v ws zs mk) (h1 : ws.length ≤ 4294967296) (h2 : zs.length ≤ 4294967296) (h3 : mk.size ≤ 4294967296) (h4 : ∀ x ∈ ws, x.size ≤ 4294967296) (hs : s.size ≤ 1048576) :
    Calls Tryz.prog 14 #[v, .string s] w fun e w' => CutTold w w' (cutBad ws zs mk (runes (foldT s true))) (cutL zs (runes (foldT s true))) e := by
  obtain ⟨i0, hi, hz0, hz1, hz2⟩ := info_parts info_str
  have HC := Lib.hid (fun W (h : IsClue W v ws zs mk) => RefCheck_any v ws zs mk W h h1 h2 h3 h4)
  have HLt := Lib.hid (fun W (h : IsClue W v ws zs mk) => RefLetters_any v ws zs mk W h h1 h2 h3 h4)
  have hft := foldT_size s true
  have hrl := runes_length (foldT s true)
  have hrb := runes_le (foldT s true)
  have HF := Lib.hid (fun W => RefFold_any s true W (by omega))
  have HR := Lib.hid (fun W => RefRunes_any (foldT s true) W (by omega))
  generalize foldT s true = F at hft hrl hrb HF HR ⊢
  generalize runes F = L at hrl hrb HR ⊢
  have hcl := hc
  obtain ⟨A, n, c, B, m, d, rfl, ha, hb, k1, k2, k3, k4, hn, hm⟩ := hc.ex
  have hg0 := heap_alloc_new w (.cells #[.slice A n c, .slice B m d, .string mk] 26)
  have hb0 : Below w.heap.size w (w.alloc (.cells #[.slice A n c, .slice B m d, .string mk] 26)) := (Below.refl _ _).alloc (Nat.le_refl _) _
  have hcl0 := hcl.keep hb0
  clear h4 hc
  obtain ⟨nL, hnL⟩ : ∃ nL, L.length = nL := ⟨_, rfl⟩
  rw [hnL] at HR hrl
  obtain ⟨bad, hbad⟩ : ∃ bad, cutBad ws zs mk L = bad := ⟨_, rfl⟩
  rw [hbad]
  unfold cutBad at hbad
  rw [hnL] at hbad
  obtain ⟨q, hq⟩ : ∃ q, lettersF ws zs mk = q := ⟨_, rfl⟩
  rw [hq] at HLt hbad
  by_cases hz : checkF ws zs mk = 0
  · obtain ⟨hok, _, _, _⟩ := check_ok hz
    obtain ⟨o1, o2, o3, o4⟩ := okZ_sum hok
    have hqs : q = ((zs.map Int.toNat).sum : Nat) := by rw [← hq]; unfold lettersF; rw [if_pos hz]; exact o3
    rw [hz] at HC hbad
    by_cases hlen : (nL : Int) = q
    · have hbf : bad = false := by rw [← hbad]; simp [hlen]
      have hne : ((nL : Int) != q) = false := by simp [hlen]
      obtain ⟨R, hR⟩ : ∃ R, cutL zs L = R := ⟨_, rfl⟩
      rw [hR]
      have HR2 := Lib.hid hR
      have hnp : 0 < nL := by omega
      have hn24 : nL ≤ 24 := by omega
      have hsum : (zs.map Int.toNat).sum = nL := by omega
      have HS := Lib.hid hsum
      have HO := Lib.hid o1
      have HE := Lib.hid hrb
      have HNL := Lib.hid hnL
      clear hz hok o1 o2 o3 o4 hbad hq hR hsum hrb hnL hqs
      subst hlen
      subst hbf
      go_enter Tryz.func14, Tryz.ntmps14
      go_wp2_with (first
        | (go_at_call 37; refine (HF.out _).mono ?_; rintro e w1 ⟨rfl, hb1⟩; have g1 := (hb1.block _ (heap_lt hg0)).trans hg0; have hbw1 := below_then hb0 hb0.size hb1)
        | (go_at_call 32; refine (HR.out _).mono ?_; rintro e w2 ⟨A2, c2, rfl, e1, e2, hown2, hrd2, hb2⟩; have g2 := (hb2.block _ (heap_lt g1)).trans g1; have hbw2 := below_then hbw1 hbw1.size hb2; have hcl2 := (hcl0.keep hb1).keep hb2)
        | (refine wpList_load_row rfl 26 _ rfl w.heap.size rfl 26 _ (0, 0) _ g2 Tryz.underlying26 rfl rfl ?_)
        | (go_at_call 45; refine (HC.out _ hcl2).mono ?_; rintro e w3 ⟨rfl, hb3⟩; have g3 := (hb3.block _ (heap_lt g2)).trans g2; have hbw3 := below_then hbw2 hbw2.size hb3; have hcl3 := hcl2.keep hb3; have hrd3 := hrd2.keep hb3)
        | (refine wpList_load_row_on rfl 26 _ rfl w.heap.size rfl 26 _ (0, 0) _ g3 Tryz.underlying26 rfl rfl ?_)
        | (go_at_call 24; refine (HLt.out _ hcl3).mono ?_; rintro e w4 ⟨rfl, hb4⟩; have g4 := (hb4.block _ (heap_lt g3)).trans g3; have hbw4 := below_then hbw3 hbw3.size hb4; have hrd4 := hrd3.keep hb4))
      have HOf := Lib.hid (fun A n c rs W (h : Rd W 1 A n (rs.map eR)) (hn : n ≤ 4294967296) (hr : ∀ r ∈ rs, r ≤ 1114111) => RefOf_any A n c rs W h hn hr)
      have hs4 := hbw4.size
      go_loopw [7, 8, 9] (fun v at' i wr => ∃ (k a : Nat) (acc : List ByteArray), i = .int .i64 k ∧ at' = .int .i64 a ∧ k ≤ m ∧ a + ((zs.drop k).map Int.toNat).sum = nL ∧ wr.ownsRow w4.heap.size 9 1 v acc.length (acc.map eS) ∧ acc ++ cutL (zs.drop k) (L.drop a) = R ∧ acc.length ≤ k ∧ Below w4.heap.size w4 wr) (fun _ _ i _ => m - (intOf i).toNat)
      case atStart => exact ⟨0, 0, [], rfl, rfl, Nat.zero_le _, by simpa using HS.out, World.ownsRow_nil _ _ _ _, HR2.out, by simp, Below.refl _ _⟩
      case round =>
        obtain ⟨k, a, acc, rfl, rfl, hk, hsm, hown, hacc, hal, hbr⟩ := hrel
        have hgr := (hbr.block _ (heap_lt g4)).trans g4
        have d1 := cell_of_row wr _ 1 _ _ _ hgr
        have hszr := hbr.size
        by_cases hlt : k < m
        · obtain ⟨b, o, z, rfl, hx, hcx4⟩ := (((((hb.keep hb0).keep hb1).keep hb2).keep hb3).keep hb4).at1 hlt
          have hcx := cell_keep hbr hcx4
          obtain ⟨hz1', hz2'⟩ := HO.out z (List.mem_of_getElem? hx)
          obtain ⟨zn, rfl⟩ : ∃ zn : Nat, z = (zn : Int) := ⟨z.toNat, by omega⟩
          rw [drop_cons hx] at hsm hacc
          simp only [List.map_cons, List.sum_cons, Int.toNat_natCast, cutL, List.drop_drop] at hsm hacc
          obtain ⟨b2, o2, rfl, hc2⟩ := hrd4.2 hnp
          have hsub := (hrd4.keep hbr).sub (a := a) (z := zn) hnp (by omega)
          have hre : ∀ r ∈ (L.drop a).take zn, r ≤ 1114111 := fun r hr => HE.out r (List.mem_of_mem_drop (List.mem_of_mem_take hr))
          have HOf2 := Lib.hid (fun cc => HOf.out (some ⟨b2, o2 + a, none⟩) zn cc _ wr hsub (by omega) hre)
          have hxs : (encL ((L.drop a).take zn)).size ≤ 4 * zn := Nat.le_trans (encL_size _) (Nat.mul_le_mul_left _ (List.length_take_le _ _))
          generalize encL ((L.drop a).take zn) = X at hacc HOf2 hxs
          have hacc' : (acc ++ [X]) ++ cutL (zs.drop (k + 1)) (L.drop (a + zn)) = R := by rw [List.append_assoc]; exact hacc
          unfold eZ at hcx hcx4
          have Hacc := Lib.hid hacc'
          have Hsm := Lib.hid hsm
          have HC4 := Lib.hid hcx4
          have haz : a + zn ≤ nL := by omega
          have hz3 : 1 ≤ zn := by omega
          clear hacc hacc' hx hsub hre hc2 HOf hsm hz1' hz2' hcx4
          go_wp2_with (first
            | (go_at_call 46; refine (HOf2.out _).mono ?_; rintro e w5 ⟨rfl, hb5⟩; have hs5 := hb5.size; replace hown := own_keep hown hb5; have hbr5 := below_then hbr hszr hb5)
            | (at_builtin; refine wpList_append_own _ rfl _ _ 23 rfl w4.heap.size 9 i0 (.string ⟨#[]⟩) 1 16 Tryz.underlying23 hi hz0 hz1 hz2 rfl (by decide) _ _ _ rfl (hown.alloc _) ⟨w5.heap.size, 0, none⟩ 1 1 [eS X] rfl rfl (cell_one_new _ _ _) (by simp [eS, Value.oneCell']) (by simp only [maxLen]; omega) (by omega) (by simp; omega) ?_; intro v' w6 hown6 hg6 hn6; have hbr6 := (hbr5.alloc (by omega) _).grown hg6 (by simp; omega) (fun k e => (hown.lt k e).1); have g6 := (hbr6.block _ (heap_lt g4)).trans g4; have d16 := cell_of_row w6 _ 1 _ _ _ g6; have hcx6 := cell_keep hbr6 HC4.out))
          go_roundw
          case rel => exact ⟨k + 1, a + zn, acc ++ [X], by go_num, by go_num, by omega, by have := Hsm.out; omega, own_snocS hown6, Hacc.out, by simp; omega, hbr6⟩
          case measure => simp [intOf] <;> omega
        · rw [List.drop_of_length_le (by omega)] at hacc
          simp only [cutL, List.append_nil] at hacc
          have Hacc := Lib.hid hacc
          clear hacc hsm
          go_wp2
          go_ret2
          exact cut_yes (below_then hbw4 hbw4.size hbr) rfl hown Hacc.out
    · have hbt : bad = true := by rw [← hbad]; simp [hlen]
      have hne : ((nL : Int) != q) = true := by simp [hlen]
      clear hz hok o1 o2 o3 o4 hbad hq hqs hlen hrb
      subst hbt
      go_enter Tryz.func14, Tryz.ntmps14
      go_wp2_with (first
        | (go_at_call 37; refine (HF.out _).mono ?_; rintro e w1 ⟨rfl, hb1⟩; have g1 := (hb1.block _ (heap_lt hg0)).trans hg0; have hbw1 := below_then hb0 hb0.size hb1)
        | (go_at_call 32; refine (HR.out _).mono ?_; rintro e w2 ⟨A2, c2, rfl, e1, e2, hown2, hrd2, hb2⟩; have g2 := (hb2.block _ (heap_lt g1)).trans g1; have hbw2 := below_then hbw1 hbw1.size hb2; have hcl2 := (hcl0.keep hb1).keep hb2)
        | (refine wpList_load_row rfl 26 _ rfl w.heap.size rfl 26 _ (0, 0) _ g2 Tryz.underlying26 rfl rfl ?_)
        | (go_at_call 45; refine (HC.out _ hcl2).mono ?_; rintro e w3 ⟨rfl, hb3⟩; have g3 := (hb3.block _ (heap_lt g2)).trans g2; have hbw3 := below_then hbw2 hbw2.size hb3; have hcl3 := hcl2.keep hb3; have hrd3 := hrd2.keep hb3)
        | (refine wpList_load_row_on rfl 26 _ rfl w.heap.size rfl 26 _ (0, 0) _ g3 Tryz.underlying26 rfl rfl ?_)
        | (go_at_call 24; refine (HLt.out _ hcl3).mono ?_; rintro e w4 ⟨rfl, hb4⟩; have hbw4 := below_then hbw3 hbw3.size hb4))
      go_ret2
      exact cut_no hbw4 rfl
  · have hbt : bad = true := by rw [← hbad]; simp [hz]
    generalize checkF ws zs mk = qc at hz HC
    have hqz : ((qc : Int) != 0) = true := by simp; omega
    clear hz hbad hq hrb
    subst hbt
    go_enter Tryz.func14, Tryz.ntmps14
    go_wp2_with (first
        | (go_at_call 37; refine (HF.out _).mono ?_; rintro e w1 ⟨rfl, hb1⟩; have g1 := (hb1.block _ (heap_lt hg0)).trans hg0; have hbw1 := below_then hb0 hb0.size hb1)
        | (go_at_call 32; refine (HR.out _).mono ?_; rintro e w2 ⟨A2, c2, rfl, e1, e2, hown2, hrd2, hb2⟩; have g2 := (hb2.block _ (heap_lt g1)).trans g1; have hbw2 := below_then hbw1 hbw1.size hb2; have hcl2 := (hcl0.keep hb1).keep hb2)
        | (refine wpList_load_row rfl 26 _ rfl w.heap.size rfl 26 _ (0, 0) _ g2 Tryz.underlying26 rfl rfl ?_)
        | (go_at_call 45; refine (HC.out _ hcl2).mono ?_; rintro e w3 ⟨rfl, hb3⟩; have g3 := (hb3.block _ (heap_lt g2)).trans g2; have hbw3 := below_then hbw2 hbw2.size hb3; have hcl3 := hcl2.keep hb3; have hrd3 := hrd2.keep hb3))
    go_ret2
    exact cut_no hbw3 rfl
end Go.Proofs.YtbjgfjmknnbahaaGreatDoor

/- Contract: clue.Cut. -/
set_option linter.unusedVariables false
set_option linter.unusedSimpArgs false
namespace Go.Proofs.YtbjgfjmknnbahaaGreatDoor
open Go.RowKit

set_option maxHeartbeats 4000000 in
set_option maxRecDepth 100000 in
theorem ClueCut_any (v : Value) (ws : List ByteArray) (zs : List Int) (mk s : ByteArray) (w : World) (hc : IsClue w v ws zs mk) (h1 : ws.length ≤ 4294967296) (h2 : zs.length ≤ 4294967296) (h3 : mk.size ≤ 4294967296) (h4 : ∀ x ∈ ws, x.size ≤ 4294967296) (hs : s.size ≤ 1048576) :
    Calls Tryz.prog 12 #[v, .string s] w fun e w' => CutTold w w' (cutBad ws zs mk (runes (foldT s true))) (cutL zs (runes (foldT s true))) e := by
  obtain ⟨i0, hi, hz0, hz1, hz2⟩ := info_parts info_str
  have HLt := Lib.hid (fun W (h : IsClue W v ws zs mk) => Letters_any v ws zs mk W h h1 h2 h3 h4)
  have hft := foldT_size s true
  have hFL : foldT s true = encL (runes (foldT s true)) := by rw [runes_fold, ← foldT_enc]
  have hsc : ∀ r ∈ runes (foldT s true), Scalar r := by rw [runes_fold]; exact fun r hr => (foldR_cap _ r hr).1
  have hcn : (seqs (foldT s true)).length = (runes (foldT s true)).length := by unfold runes; rw [List.length_map]
  have HF := Lib.hid (fun W => Fold_any s true W (by omega))
  have HCo := Lib.hid (fun W => (hcn ▸ Count_any (foldT s true) W (by omega) : Calls Tryz.prog 16 #[.string (foldT s true)] W fun e w' => e = .returned (.int .i64 (runes (foldT s true)).length) ∧ Below W.heap.size W w'))
  generalize hLL : runes (foldT s true) = L at hFL hsc HCo ⊢
  clear hLL hcn
  generalize foldT s true = F at hft hFL HF HCo
  have hcl := hc
  obtain ⟨A, n, c, B, m, d, rfl, ha, hb, k1, k2, k3, k4, hn, hm⟩ := hc.ex
  have hg0 := heap_alloc_new w (.cells #[.slice A n c, .slice B m d, .string mk] 26)
  have hb0 : Below w.heap.size w (w.alloc (.cells #[.slice A n c, .slice B m d, .string mk] 26)) := (Below.refl _ _).alloc (Nat.le_refl _) _
  have hcl0 := hcl.keep hb0
  clear h4 hc
  obtain ⟨nL, hnL⟩ : ∃ nL, L.length = nL := ⟨_, rfl⟩
  rw [hnL] at HCo
  obtain ⟨bad, hbad⟩ : ∃ bad, cutBad ws zs mk L = bad := ⟨_, rfl⟩
  rw [hbad]
  unfold cutBad at hbad
  rw [hnL] at hbad
  obtain ⟨q, hq⟩ : ∃ q, lettersF ws zs mk = q := ⟨_, rfl⟩
  rw [hq] at HLt hbad
  by_cases hz : checkF ws zs mk = 0
  · obtain ⟨hok, _, _, _⟩ := check_ok hz
    obtain ⟨o1, o2, o3, o4⟩ := okZ_sum hok
    have hqs : q = ((zs.map Int.toNat).sum : Nat) := by rw [← hq]; unfold lettersF; rw [if_pos hz]; exact o3
    have hq0 : (q == 0) = false := by simp; omega
    rw [hz] at hbad
    by_cases hlen : (nL : Int) = q
    · have hbf : bad = false := by rw [← hbad]; simp [hlen]
      obtain ⟨R, hR⟩ : ∃ R, cutL zs L = R := ⟨_, rfl⟩
      rw [hR]
      have HR2 := Lib.hid hR
      have hn24 : nL ≤ 24 := by omega
      have hn0 : ((nL : Int) == 0) = false := by simp; omega
      have hsum : (zs.map Int.toNat).sum = nL := by omega
      have HS := Lib.hid hsum
      have HO := Lib.hid o1
      have HE := Lib.hid hsc
      have HFL := Lib.hid hFL
      have HNL := Lib.hid hnL
      clear hz hok o1 o2 o3 o4 hbad hq hR hsum hsc hnL hqs hFL hq0
      subst hlen
      subst hbf
      go_enter Tryz.func12, Tryz.ntmps12
      go_wp2_with (first
        | (go_at_call 17; refine (HF.out _).mono ?_; rintro e w1 ⟨rfl, hb1⟩; have g1 := (hb1.block _ (heap_lt hg0)).trans hg0; have hbw1 := below_then hb0 hb0.size hb1)
        | (refine wpList_load_row rfl 26 _ rfl w.heap.size rfl 26 _ (0, 0) _ g1 Tryz.underlying26 rfl rfl ?_)
        | (go_at_call 23; refine (HLt.out _ (hcl0.keep hb1)).mono ?_; rintro e w2 ⟨rfl, hb2⟩; have g2 := (hb2.block _ (heap_lt g1)).trans g1; have hbw2 := below_then hbw1 hbw1.size hb2)
        | (go_at_call 16; refine (HCo.out _).mono ?_; rintro e w4 ⟨rfl, hb4⟩; have g4 := (hb4.block _ (heap_lt g2)).trans g2; have hbw4 := below_then hbw2 hbw2.size hb4; have d14 := cell_of_row w4 _ 1 _ _ _ g4))
      go_loopw [6, 8, 27] (fun rs v i wr => ∃ (k a : Nat) (acc : List ByteArray), i = .int .i64 k ∧ rs = .string (encL (L.drop a)) ∧ k ≤ m ∧ a + ((zs.drop k).map Int.toNat).sum = nL ∧ wr.ownsRow w4.heap.size 9 1 v acc.length (acc.map eS) ∧ acc ++ cutL (zs.drop k) (L.drop a) = R ∧ acc.length ≤ k ∧ Below w4.heap.size w4 wr) (fun _ _ i _ => m - (intOf i).toNat)
      case atStart => exact ⟨0, 0, [], rfl, by rw [List.drop_zero, ← HFL.out], Nat.zero_le _, by simpa using HS.out, World.ownsRow_nil _ _ _ _, HR2.out, by simp, Below.refl _ _⟩
      case round =>
        obtain ⟨k, a, acc, rfl, rfl, hk, hsm, hown, hacc, hal, hbr⟩ := hrel
        have hszr := hbr.size
        by_cases hlt : k < m
        · obtain ⟨b, o, z, rfl, hx, hcx4⟩ := ((((hb.keep hb0).keep hb1).keep hb2).keep hb4).at1 hlt
          have hcx := cell_keep hbr hcx4
          obtain ⟨hz1', hz2'⟩ := HO.out z (List.mem_of_getElem? hx)
          obtain ⟨zn, rfl⟩ : ∃ zn : Nat, z = (zn : Int) := ⟨z.toNat, by omega⟩
          rw [drop_cons hx] at hsm hacc
          simp only [List.map_cons, List.sum_cons, Int.toNat_natCast, cutL, List.drop_drop] at hsm hacc
          have hsd : ∀ r ∈ L.drop a, Scalar r := fun r hr => HE.out r (List.mem_of_mem_drop hr)
          have hce := cut_enc zn (L.drop a) hsd
          have hde := drop_enc zn (L.drop a)
          rw [List.drop_drop] at hde
          have hRs : (encL (L.drop a)).size ≤ 4 * nL := Nat.le_trans (encL_size _) (by rw [List.length_drop]; have := HNL.out; omega)
          have hXs : (encL ((L.drop a).take zn)).size ≤ (encL (L.drop a)).size := by
            conv => rhs; rw [← List.take_append_drop zn (L.drop a), encL_append, ByteArray.size_append]
            omega
          have HCt := Lib.hid (fun W => (hce ▸ Cut_any (encL (L.drop a)) zn W (by omega) (by omega) (by omega) : Calls Tryz.prog 44 #[.string (encL (L.drop a)), .int .i64 zn] W fun e w' => e = .returned (.string (encL ((L.drop a).take zn))) ∧ Below W.heap.size W w'))
          have HDe := Lib.hid hde
          clear hce hde
          generalize encL ((L.drop a).take zn) = X at hacc HCt HDe hXs
          generalize encL (L.drop a) = Rs at HCt HDe hXs hRs
          have hacc' : (acc ++ [X]) ++ cutL (zs.drop (k + 1)) (L.drop (a + zn)) = R := by rw [List.append_assoc]; exact hacc
          unfold eZ at hcx
          have Hacc := Lib.hid hacc'
          have Hsm := Lib.hid hsm
          clear hacc hacc' hx hsm hz1' hz2' hcx4 hsd
          go_wp2_with (first
            | (go_at_call 44; refine (HCt.out _).mono ?_; rintro e w5 ⟨rfl, hb5⟩; have hs5 := hb5.size; replace hown := own_keep hown hb5; have hbr5 := below_then hbr hszr hb5)
            | (at_builtin; refine wpList_append_own _ rfl _ _ 23 rfl w4.heap.size 9 i0 (.string ⟨#[]⟩) 1 16 Tryz.underlying23 hi hz0 hz1 hz2 rfl (by decide) _ _ _ rfl (hown.alloc _) ⟨w5.heap.size, 0, none⟩ 1 1 [eS X] rfl rfl (cell_one_new _ _ _) (by simp [eS, Value.oneCell']) (by simp only [maxLen]; omega) (by omega) (by simp; omega) ?_; intro v' w6 hown6 hg6 hn6; have hbr6 := (hbr5.alloc (by omega) _).grown hg6 (by simp; omega) (fun k e => (hown.lt k e).1)))
          go_roundw
          case rel => exact ⟨k + 1, a + zn, acc ++ [X], by go_num, congrArg Value.string HDe.out, by omega, by have := Hsm.out; omega, own_snocS hown6, Hacc.out, by simp; omega, hbr6⟩
          case measure => simp [intOf] <;> omega
        · rw [List.drop_of_length_le (by omega)] at hacc
          simp only [cutL, List.append_nil] at hacc
          have Hacc := Lib.hid hacc
          clear hacc hsm
          go_wp2
          go_ret2
          exact cut_yes (below_then hbw4 hbw4.size hbr) rfl hown Hacc.out
    · have hbt : bad = true := by rw [← hbad]; simp [hlen]
      have hne : ((nL : Int) != q) = true := by simp [hlen]
      clear hz hok o1 o2 o3 o4 hbad hq hqs hlen hsc hFL
      subst hbt
      go_enter Tryz.func12, Tryz.ntmps12
      go_wp2_with (first
        | (go_at_call 17; refine (HF.out _).mono ?_; rintro e w1 ⟨rfl, hb1⟩; have g1 := (hb1.block _ (heap_lt hg0)).trans hg0; have hbw1 := below_then hb0 hb0.size hb1)
        | (refine wpList_load_row rfl 26 _ rfl w.heap.size rfl 26 _ (0, 0) _ g1 Tryz.underlying26 rfl rfl ?_)
        | (go_at_call 23; refine (HLt.out _ (hcl0.keep hb1)).mono ?_; rintro e w2 ⟨rfl, hb2⟩; have hbw2 := below_then hbw1 hbw1.size hb2)
        | (go_at_call 16; refine (HCo.out _).mono ?_; rintro e w4 ⟨rfl, hb4⟩; have hbw4 := below_then hbw2 hbw2.size hb4))
      go_ret2
      exact cut_no hbw4 rfl
  · have hbt : bad = true := by rw [← hbad]; simp [hz]
    have hq0 : q = 0 := by rw [← hq]; unfold lettersF; rw [if_neg hz]
    rw [hq0] at HLt
    clear hz hbad hq hsc hFL hq0
    subst hbt
    go_enter Tryz.func12, Tryz.ntmps12
    go_wp2_with (first
        | (go_at_call 17; refine (HF.out _).mono ?_; rintro e w1 ⟨rfl, hb1⟩; have g1 := (hb1.block _ (heap_lt hg0)).trans hg0; have hbw1 := below_then hb0 hb0.size hb1)
        | (refine wpList_load_row rfl 26 _ rfl w.heap.size rfl 26 _ (0, 0) _ g1 Tryz.underlying26 rfl rfl ?_)
        | (go_at_call 23; refine (HLt.out _ (hcl0.keep hb1)).mono ?_; rintro e w2 ⟨rfl, hb2⟩; have hbw2 := below_then hbw1 hbw1.size hb2))
    go_ret2
    exact cut_no hbw2 rfl
end Go.Proofs.YtbjgfjmknnbahaaGreatDoor

/- Contract: rebuslaw16.lent: a clue of one's own. -/
set_option linter.unusedVariables false
set_option linter.unusedSimpArgs false
namespace Go.Proofs.YtbjgfjmknnbahaaGreatDoor
open Go.RowKit

/-- 'append([]T{}, xs...)': a row of one's own. -/
theorem step_copy {P : Program} {ops : Array Oper} {o : Oper} {a : Act} {w : World} {K : Act → World → Prop} {Q : Exit → Act → World → Prop} {E : Prop}
    (hg : o.guard = none) (s x : Operand) (t : TypeId) (hop : o.op = Op.call { callee := Callee.builtin Builtin.append, args := #[s, x], argTypes := #[t, t] })
    (e : TypeId) (i : TypeInfo) (z : Value) (bytes : Nat) (h1 : P.underlying t = some (.slice e)) (h2 : P.info? e = some i) (h3 : i.zero = some z) (h4 : i.size = 1) (h5 : i.bytes = bytes) (h6 : z.cells.size = 1)
    (g : Addr) (hs : a.eval s = .slice (some g) 0 0) (A : Option Addr) (n c : Nat) (hx : a.eval x = .slice A n c) (hA : A = none → c = 0) (hnc : n ≤ c) (cs : List Value) (hrd : Rd w 1 A n cs) (hone : ∀ u ∈ cs, u.oneCell' = true)
    (b1 : n ≤ maxLen) (b2 : n * bytes ≤ 140737488355328) (N : Nat) (hN : N ≤ w.heap.size)
    (hK : ∀ v' w', (∃ A' c', v' = .slice A' n c' ∧ n ≤ c' ∧ c' ≤ maxLen ∧ Rd w' 1 A' n cs ∧ (0 < n → ∀ b o, A' = some ⟨b, o, none⟩ → N ≤ b)) → Below w.heap.size w w' → K (a.put o.dst v') w') :
    if Region.wanted o (yielded ops a.tmps) = true then Oper.wp P o a w K Q else E := by
  have hl : cs.length = n := by have := hrd.1; simpa using this
  rcases Nat.eq_zero_or_pos n with h0 | h0
  · subst h0
    have hcs : cs = [] := List.eq_nil_of_length_eq_zero hl
    subst hcs
    have hw : Region.wanted o (yielded ops a.tmps) = true := by simp [Region.wanted, hg]
    rw [if_pos hw]
    have hk := hK (.slice (some g) 0 0) w ⟨some g, 0, rfl, Nat.le_refl _, Nat.zero_le _, Rd.nil, fun h => absurd h (Nat.lt_irrefl _)⟩ (Below.refl _ _)
    have hr : (Builtin.append_ #[t, t] o.type #[.slice (some g) 0 0, .slice A 0 c]).run P w = .ok (.slice (some g) 0 0) w := by
      cases A with
      | none =>
        obtain rfl : c = 0 := hA rfl
        simp [Builtin.append_, run_underlying h1, sizeOf, typeInfo, h2, Builtin.lenOf, Builtin.firstCells, storeCells]
      | some ad => simp [Builtin.append_, run_underlying h1, sizeOf, typeInfo, h2, Builtin.lenOf, Builtin.firstCells, storeCells, loadCells, loadCellsFrom]
    unfold Oper.wp execOp
    simp only [hop, resolve, invoke, builtin, Sem.run_bind, Sem.run_pure, Result.andThen_ok, List.map_toArray, List.map_cons, List.map_nil, hs, hx, hr]
    exact hk
  · obtain ⟨b, o2, rfl, hc⟩ := hrd.2 h0
    have hp : ∀ j, (⟨b, o2, none⟩ : Addr).add j = ⟨b, o2 + j, none⟩ := fun j => by unfold Addr.add; split <;> simp_all
    refine step_append_grows hg s x t hop e i z 1 bytes h1 h2 h3 h4 h5 h6 (by decide) (some g) 0 0 [] hs (fun h => by cases h) rfl (fun b h j u hu => by simp at hu) ⟨b, o2, none⟩ n c cs hx (by omega) (fun j u hu => by rw [hp]; exact hc j u hu) hone (by omega) (by omega) (by rw [Nat.zero_add]; exact b2) ?_
    intro v' w' hown hgr
    rw [Nat.zero_add, List.nil_append] at hown
    obtain ⟨A', c', rfl, q1, q2, q3⟩ := own_rd hown
    exact hK _ w' ⟨A', c', rfl, q1, q2, q3, fun _ b o e => by subst e; exact Nat.le_trans hN (own_block hown)⟩ ((Below.refl _ _).grown hgr (Nat.le_refl _) (by simp))
theorem one_eZ (zs : List Int) : ∀ u ∈ zs.map eZ, u.oneCell' = true := by
  intro u hu
  obtain ⟨x, _, rfl⟩ := List.mem_map.1 hu
  rfl
theorem one_eS' (ws : List ByteArray) : ∀ u ∈ ws.map eS, u.oneCell' = true := by
  intro u hu
  obtain ⟨x, _, rfl⟩ := List.mem_map.1 hu
  rfl
theorem below_drew1 {w : World} : Below w.heap.size w w.drew := ⟨rfl, rfl, rfl, Nat.le_refl _, fun _ _ => rfl⟩

theorem lent_of {A B : Option Addr} {n c m d N : Nat} {mk : ByteArray} {w W : World} (h0 : W.heap[N]? = some (.cells #[.slice A n c, .slice B m d, .string mk] 26 (0, 0))) (h1 : ∃ x y z : Value, W.heap[N + 1]? = some (.cells #[x, y, z] 26 (0, 0))) (hb : Below N w W) :
    W.cell? ⟨N, 0, none⟩ = some (.slice A n c) ∧ W.cell? ⟨N, 1, none⟩ = some (.slice B m d) ∧ W.cell? ⟨N, 2, none⟩ = some (.string mk) ∧ W.heap[N]? = some (.cells #[.slice A n c, .slice B m d, .string mk] 26 (0, 0)) ∧ (∃ x y z : Value, W.heap[N + 1]? = some (.cells #[x, y, z] 26 (0, 0))) ∧ Below N w W :=
  ⟨cell_of_row W _ 0 _ _ _ h0, cell_of_row W _ 1 _ _ _ h0, cell_of_row W _ 2 _ _ _ h0, h0, h1, hb⟩
theorem lent_step {A B : Option Addr} {n c m d N : Nat} {mk : ByteArray} {w W : World} {W' : World} (h : W.cell? ⟨N, 0, none⟩ = some (.slice A n c) ∧ W.cell? ⟨N, 1, none⟩ = some (.slice B m d) ∧ W.cell? ⟨N, 2, none⟩ = some (.string mk) ∧ W.heap[N]? = some (.cells #[.slice A n c, .slice B m d, .string mk] 26 (0, 0)) ∧ (∃ x y z : Value, W.heap[N + 1]? = some (.cells #[x, y, z] 26 (0, 0))) ∧ Below N w W) (hN : N ≤ W.heap.size) (hb : Below W.heap.size W W') :
    W'.cell? ⟨N, 0, none⟩ = some (.slice A n c) ∧ W'.cell? ⟨N, 1, none⟩ = some (.slice B m d) ∧ W'.cell? ⟨N, 2, none⟩ = some (.string mk) ∧ W'.heap[N]? = some (.cells #[.slice A n c, .slice B m d, .string mk] 26 (0, 0)) ∧ (∃ x y z : Value, W'.heap[N + 1]? = some (.cells #[x, y, z] 26 (0, 0))) ∧ Below N w W' := by
  obtain ⟨_, _, _, h0, ⟨x, y, z, h1⟩, h2⟩ := h
  exact lent_of ((hb.block _ (heap_lt h0)).trans h0) ⟨x, y, z, (hb.block _ (heap_lt h1)).trans h1⟩ (below_then h2 hN hb)
theorem lent_size {A B : Option Addr} {n c m d N : Nat} {mk : ByteArray} {w W : World} (h : W.cell? ⟨N, 0, none⟩ = some (.slice A n c) ∧ W.cell? ⟨N, 1, none⟩ = some (.slice B m d) ∧ W.cell? ⟨N, 2, none⟩ = some (.string mk) ∧ W.heap[N]? = some (.cells #[.slice A n c, .slice B m d, .string mk] 26 (0, 0)) ∧ (∃ x y z : Value, W.heap[N + 1]? = some (.cells #[x, y, z] 26 (0, 0))) ∧ Below N w W) : N ≤ W.heap.size := Nat.le_of_lt (heap_lt h.2.2.2.1)
theorem lent_size2 {A B : Option Addr} {n c m d N : Nat} {mk : ByteArray} {w W : World} (h : W.cell? ⟨N, 0, none⟩ = some (.slice A n c) ∧ W.cell? ⟨N, 1, none⟩ = some (.slice B m d) ∧ W.cell? ⟨N, 2, none⟩ = some (.string mk) ∧ W.heap[N]? = some (.cells #[.slice A n c, .slice B m d, .string mk] 26 (0, 0)) ∧ (∃ x y z : Value, W.heap[N + 1]? = some (.cells #[x, y, z] 26 (0, 0))) ∧ Below N w W) : N + 2 ≤ W.heap.size := by
  obtain ⟨_, _, _, h0, ⟨x, y, z, h1⟩, h2⟩ := h
  exact heap_lt h1
theorem lent_below {A B : Option Addr} {n c m d N : Nat} {mk : ByteArray} {w W : World} (h : W.cell? ⟨N, 0, none⟩ = some (.slice A n c) ∧ W.cell? ⟨N, 1, none⟩ = some (.slice B m d) ∧ W.cell? ⟨N, 2, none⟩ = some (.string mk) ∧ W.heap[N]? = some (.cells #[.slice A n c, .slice B m d, .string mk] 26 (0, 0)) ∧ (∃ x y z : Value, W.heap[N + 1]? = some (.cells #[x, y, z] 26 (0, 0))) ∧ Below N w W) : Below N w W := h.2.2.2.2.2
theorem lent_store {A B : Option Addr} {n c m d N : Nat} {mk : ByteArray} {w W : World} {a1 a2 a3 : Value} (h : W.cell? ⟨N, 0, none⟩ = some (.slice A n c) ∧ W.cell? ⟨N, 1, none⟩ = some (.slice B m d) ∧ W.cell? ⟨N, 2, none⟩ = some (.string mk) ∧ W.heap[N]? = some (.cells #[.slice A n c, .slice B m d, .string mk] 26 (0, 0)) ∧ (∃ x y z : Value, W.heap[N + 1]? = some (.cells #[x, y, z] 26 (0, 0))) ∧ Below N w W) :
    (((W.setCell ⟨N + 1, 0, none⟩ a1).setCell ⟨N + 1, 1, none⟩ a2).setCell ⟨N + 1, 2, none⟩ a3).cell? ⟨N, 0, none⟩ = some (.slice A n c) ∧ (((W.setCell ⟨N + 1, 0, none⟩ a1).setCell ⟨N + 1, 1, none⟩ a2).setCell ⟨N + 1, 2, none⟩ a3).cell? ⟨N, 1, none⟩ = some (.slice B m d) ∧ (((W.setCell ⟨N + 1, 0, none⟩ a1).setCell ⟨N + 1, 1, none⟩ a2).setCell ⟨N + 1, 2, none⟩ a3).cell? ⟨N, 2, none⟩ = some (.string mk) ∧ (((W.setCell ⟨N + 1, 0, none⟩ a1).setCell ⟨N + 1, 1, none⟩ a2).setCell ⟨N + 1, 2, none⟩ a3).heap[N]? = some (.cells #[.slice A n c, .slice B m d, .string mk] 26 (0, 0)) ∧ (∃ x y z : Value, (((W.setCell ⟨N + 1, 0, none⟩ a1).setCell ⟨N + 1, 1, none⟩ a2).setCell ⟨N + 1, 2, none⟩ a3).heap[N + 1]? = some (.cells #[x, y, z] 26 (0, 0))) ∧ Below N w (((W.setCell ⟨N + 1, 0, none⟩ a1).setCell ⟨N + 1, 1, none⟩ a2).setCell ⟨N + 1, 2, none⟩ a3) := by
  obtain ⟨_, _, _, h0, ⟨x, y, z, h1⟩, h2⟩ := h
  have hs : Below (N + 1) W (((W.setCell ⟨N + 1, 0, none⟩ a1).setCell ⟨N + 1, 1, none⟩ a2).setCell ⟨N + 1, 2, none⟩ a3) := by
    have h3 := set3_below (a := a1) (b := a2) (c := a3) (Below.refl (N + 1) W)
    exact ⟨h3.os, h3.tape, h3.output, h3.size, h3.block⟩
  exact lent_of ((hs.block N (Nat.lt_succ_self N)).trans h0) ⟨a1, a2, a3, set3_heap h1⟩ (h2.trans (hs.mono (Nat.le_succ N)))
theorem Rd.set3 {W : World} {A : Option Addr} {n N : Nat} {cs : List Value} {a1 a2 a3 : Value} (h : Rd W 1 A n cs) (hN : 0 < n → ∀ b o, A = some ⟨b, o, none⟩ → N + 2 ≤ b) : Rd (((W.setCell ⟨N + 1, 0, none⟩ a1).setCell ⟨N + 1, 1, none⟩ a2).setCell ⟨N + 1, 2, none⟩ a3) 1 A n cs := by
  rcases Nat.eq_zero_or_pos n with h0 | h0
  · subst h0
    have : cs = [] := List.eq_nil_of_length_eq_zero (by simpa using h.1)
    subst this
    exact Rd.nil
  · exact h.apart (fun b o e => by have := hN h0 b o e; omega) ((((Apart.refl _ _).setCell _).setCell _).setCell _)
set_option maxHeartbeats 4000000 in
set_option maxRecDepth 100000 in
theorem Lent_any (A : Option Addr) (n c : Nat) (B : Option Addr) (m d : Nat) (ws : List ByteArray) (zs : List Int) (mk : ByteArray) (w : World) (ha : Rd w 1 A n (ws.map eS)) (hb : Rd w 1 B m (zs.map eZ)) (hA : A = none → c = 0) (hB : B = none → d = 0) (hnc : n ≤ c) (hmd : m ≤ d) (hn : n ≤ 4294967296) (hm : m ≤ 4294967296) :
    Calls Tryz.prog 13 #[.agg #[.slice A n c, .slice B m d, .string mk]] w fun e w' => (∃ A' c' B' d', e = .returned (.agg #[.slice A' n c', .slice B' m d', .string mk]) ∧ IsClue w' (.agg #[.slice A' n c', .slice B' m d', .string mk]) ws zs mk) ∧ Below w.heap.size w w' := by
  obtain ⟨i0, hi, hz0, hz1, hz2⟩ := info_parts info_str
  obtain ⟨j0, hj, hy0, hy1, hy2⟩ := info_parts info_i64
  have hg0 := heap_alloc_new w (.cells #[.slice A n c, .slice B m d, .string mk] 26)
  have hg1 := heap_alloc_keep hg0 (.cells #[.slice none 0 0, .slice none 0 0, .string ⟨#[]⟩] 26)
  have hg2 := heap_alloc_new (w.alloc (.cells #[.slice A n c, .slice B m d, .string mk] 26)) (.cells #[.slice none 0 0, .slice none 0 0, .string ⟨#[]⟩] 26)
  have hsz1 : (w.alloc (.cells #[.slice A n c, .slice B m d, .string mk] 26)).heap.size = w.heap.size + 1 := by simp
  rw [hsz1] at hg2
  have hb2 : Below w.heap.size w ((w.alloc (.cells #[.slice A n c, .slice B m d, .string mk] 26)).alloc (.cells #[.slice none 0 0, .slice none 0 0, .string ⟨#[]⟩] 26)) := ((Below.refl _ _).alloc (Nat.le_refl _) _).alloc (by simp) _
  have HS0 := lent_of (W := ((w.alloc (.cells #[.slice A n c, .slice B m d, .string mk] 26)).alloc (.cells #[.slice none 0 0, .slice none 0 0, .string ⟨#[]⟩] 26)).drew) hg1 ⟨_, _, _, hg2⟩ ⟨hb2.os, hb2.tape, hb2.output, hb2.size, hb2.block⟩
  clear hsz1 hb2 hg0
  go_enter Tryz.func13, Tryz.ntmps13
  go_wp2_with fail
  go_region_held_law (fun w' => w'.cell? ⟨w.heap.size, 0, none⟩ = some (.slice A n c) ∧ w'.cell? ⟨w.heap.size, 1, none⟩ = some (.slice B m d) ∧ w'.cell? ⟨w.heap.size, 2, none⟩ = some (.string mk) ∧ w'.heap[w.heap.size]? = some (.cells #[.slice A n c, .slice B m d, .string mk] 26 (0, 0)) ∧ (∃ x y z : Value, w'.heap[w.heap.size + 1]? = some (.cells #[x, y, z] 26 (0, 0))) ∧ Below w.heap.size w w')
    (first | exact HS0 | exact hS5 | exact hS6 | exact lent_step (by assumption) (lent_size (by assumption)) ((Below.refl _ _).alloc (Nat.le_refl _) _) | exact lent_store hS5 | exact lent_store hS6)
    (first
      | (refine step_copy rfl _ _ 23 rfl 9 i0 (.string ⟨#[]⟩) 16 Tryz.underlying23 hi hz0 hz1 hz2 rfl _ rfl A n c rfl hA hnc (ws.map eS) (ha.keep (lent_below (by assumption))) (one_eS' ws) (by simp only [maxLen]; omega) (by omega) (w.heap.size + 2) (lent_size2 (by assumption)) ?_; intro v' w5 h5 hb5; obtain ⟨A5, c5, rfl, q1, q2, hrd5, hn5⟩ := h5; have hS5 := lent_step (W' := w5) (by assumption) (lent_size (by assumption)) hb5; obtain ⟨x5, y5, z5, hr5⟩ := hS5.2.2.2.2.1; have k0 := cell_of_row w5 _ 0 _ _ _ hr5; have k1 := cell_of_row w5 _ 1 _ _ _ hr5; have k2 := cell_of_row w5 _ 2 _ _ _ hr5; have f0 := frozen_row hr5 0; have f1 := frozen_row hr5 1; have f2 := frozen_row hr5 2)
      | (refine step_copy rfl _ _ 24 rfl 3 j0 (.int .i64 0) 8 Tryz.underlying24 hj hy0 hy1 hy2 rfl _ rfl B m d rfl hB hmd (zs.map eZ) (hb.keep (lent_below (by assumption))) (one_eZ zs) (by simp only [maxLen]; omega) (by omega) (w.heap.size + 2) (lent_size2 (by assumption)) ?_; intro v' w6 h6 hb6; obtain ⟨B6, d6, rfl, r1, r2, hrd6, hn6⟩ := h6; have hS6 := lent_step (W' := w6) (by assumption) (lent_size (by assumption)) hb6; obtain ⟨x6, y6, z6, hr6⟩ := hS6.2.2.2.2.1; have k0 := cell_of_row w6 _ 0 _ _ _ hr6; have k1 := cell_of_row w6 _ 1 _ _ _ hr6; have k2 := cell_of_row w6 _ 2 _ _ _ hr6; have f0 := frozen_row hr6 0; have f1 := frozen_row hr6 1; have f2 := frozen_row hr6 2))
  all_goals (
    go_wp2
    refine bodyPost_ret (results_cell_row rfl _ _ (w.heap.size + 1) 26 _ (0, 0) _ rfl (by first | exact set3_heap hr6 | exact set3_heap hr5) Tryz.underlying26 rfl rfl) rfl ?_
    have hrd5' := hrd5
    have hrd6' := hrd6
    refine ⟨⟨A5, c5, B6, d6, rfl, A5, n, c5, B6, m, d6, rfl, Rd.set3 (by first | exact hrd5 | exact hrd5.keep hb6 | exact (hrd5.keep ((Below.refl _ _).alloc (Nat.le_refl _) _)).keep hb6) hn5, Rd.set3 (by first | exact hrd6 | exact hrd6.keep hb5 | exact (hrd6.keep ((Below.refl _ _).alloc (Nat.le_refl _) _)).keep hb5) hn6, q1, r1, q2, r2, ?_, ?_⟩, ?_⟩
    · have := ha.1; simpa using this
    · have := hb.1; simpa using this
    · first | exact lent_below (lent_store hS6) | exact lent_below (lent_store hS5))
end Go.Proofs.YtbjgfjmknnbahaaGreatDoor

/- Contract: rebuslaw16.ClueCuts: true for every clue and answer. -/
set_option linter.unusedVariables false
set_option linter.unusedSimpArgs false
namespace Go.Proofs.YtbjgfjmknnbahaaGreatDoor
open Go.RowKit

theorem catB_foldr (l : List ByteArray) : l.foldr (· ++ ·) ByteArray.empty = catB l := by
  induction l with
  | nil => rfl
  | cons x l ih => rw [List.foldr_cons, catB, ih]
theorem sameT_refl (l : List ByteArray) : sameT l l = true := sameT_true rfl
theorem cutL_size : ∀ (zs : List Int) (L : List Nat), ∀ x ∈ cutL zs L, x.size ≤ 4 * L.length
  | [], L, x, h => by simp [cutL] at h
  | z :: zs, L, x, h => by
    rw [cutL] at h
    rcases List.mem_cons.1 h with rfl | h
    · exact Nat.le_trans (encL_size _) (Nat.mul_le_mul_left _ (by rw [List.length_take]; omega))
    · have := cutL_size zs (L.drop z.toNat) x h
      rw [List.length_drop] at this
      omega
set_option maxHeartbeats 4000000 in
set_option maxRecDepth 100000 in
theorem ClueCuts_any (A : Option Addr) (n c : Nat) (B : Option Addr) (m d : Nat) (ws : List ByteArray) (zs : List Int) (mk s : ByteArray) (w : World) (hc : IsClue w (.agg #[.slice A n c, .slice B m d, .string mk]) ws zs mk) (hA : A = none → c = 0) (hB : B = none → d = 0) (h1 : ws.length ≤ 1048576) (h2 : zs.length ≤ 1048576) (h3 : mk.size ≤ 1048576) (h4 : ∀ x ∈ ws, x.size ≤ 1048576) (hs : s.size ≤ 1048576) (hv : Vars w) :
    Calls Tryz.prog 4 #[.agg #[.slice A n c, .slice B m d, .string mk], .string s] w fun e w' => e = .returned (.bool true) ∧ Below w.heap.size w w' := by
  have hcl := hc
  obtain ⟨A', n', c', B', m', d', he, ha, hb, k1, k2, k3, k4, hn, hm⟩ := hc.ex
  simp only [Value.agg.injEq, Array.mk.injEq, List.cons.injEq, Value.slice.injEq, and_true] at he
  obtain ⟨⟨rfl, rfl, rfl⟩, rfl, rfl, rfl⟩ := he
  have HA := Lib.hid (fun W (h : Vars W) => Awake_any W h)
  have HLe := Lib.hid (fun W (ha : Rd W 1 A n (ws.map eS)) (hb : Rd W 1 B m (zs.map eZ)) => Lent_any A n c B m d ws zs mk W ha hb hA hB k1 k2 (by omega) (by omega))
  have HC1 := Lib.hid (fun v W h => ClueCut_any v ws zs mk s W h (by omega) (by omega) (by omega) (fun x hx => Nat.le_trans (h4 x hx) (by omega)) hs)
  have HC2 := Lib.hid (fun v W h => RefCut_any v ws zs mk s W h (by omega) (by omega) (by omega) (fun x hx => Nat.le_trans (h4 x hx) (by omega)) hs)
  have hft := foldT_size s true
  have hrl := runes_length (foldT s true)
  have HF := Lib.hid (fun W => Fold_any s true W (by omega))
  have hg0 := heap_alloc_new w (.cells #[.slice A n c, .slice B m d, .string mk] 26)
  have hb0 : Below w.heap.size w (w.alloc (.cells #[.slice A n c, .slice B m d, .string mk] 26)) := (Below.refl _ _).alloc (Nat.le_refl _) _
  have hv0 := hv.keep hb0
  have ha0 := ha.keep hb0
  have hbz0 := hb.keep hb0
  have hcl0 := hcl.keep hb0
  cases hbad : cutBad ws zs mk (runes (foldT s true)) with
  | true =>
    rw [hbad] at HC1 HC2
    generalize cutL zs (runes (foldT s true)) = R at HC1 HC2
    clear hc h4 hbad hft hrl HF
    have HC1' := Lib.hid (fun v W h => (HC1.out v W h).mono (show ∀ e w', CutTold W w' true R e → e = .returned (.tuple #[.slice none 0 0, .bool false]) ∧ Below W.heap.size W w' from fun e w' h => by
      obtain ⟨hb, ⟨_, he⟩ | ⟨h, _⟩⟩ := h
      · exact ⟨he, hb⟩
      · cases h))
    have HC2' := Lib.hid (fun v W h => (HC2.out v W h).mono (show ∀ e w', CutTold W w' true R e → e = .returned (.tuple #[.slice none 0 0, .bool false]) ∧ Below W.heap.size W w' from fun e w' h => by
      obtain ⟨hb, ⟨_, he⟩ | ⟨h, _⟩⟩ := h
      · exact ⟨he, hb⟩
      · cases h))
    clear HC1 HC2
    go_enter Tryz.func4, Tryz.ntmps4
    go_wp2_with (first
      | (go_at_call 7; refine (HA.out _ hv0).mono ?_; rintro e w1 ⟨rfl, hb1⟩; have g1 := (hb1.block _ (heap_lt hg0)).trans hg0; have hbw1 := below_then hb0 hb0.size hb1)
      | (refine wpList_load_row rfl 26 _ rfl w.heap.size rfl 26 _ (0, 0) _ g1 Tryz.underlying26 rfl rfl ?_)
      | (go_at_call 13; refine (HLe.out _ (ha0.keep hb1) (hbz0.keep hb1)).mono ?_; rintro e w2 ⟨⟨A2, c2, B2, d2, rfl, hcl2⟩, hb2⟩; have g2 := (hb2.block _ (heap_lt g1)).trans g1; have hbw2 := below_then hbw1 hbw1.size hb2)
      | (go_at_call 12; refine (HC1'.out _ _ hcl2).mono ?_; rintro e w3 ⟨rfl, hb3⟩; have g3 := (hb3.block _ (heap_lt g2)).trans g2; have hbw3 := below_then hbw2 hbw2.size hb3)
      | (refine wpList_load_row rfl 26 _ rfl w.heap.size rfl 26 _ (0, 0) _ g3 Tryz.underlying26 rfl rfl ?_)
      | (go_at_call 14; refine (HC2'.out _ _ (((hcl0.keep hb1).keep hb2).keep hb3)).mono ?_; rintro e w4 ⟨rfl, hb4⟩; have hbw4 := below_then hbw3 hbw3.size hb4)
      | (go_at_call 15; refine (RefSameTexts_any _ _ _ _ _ _ [] [] _ Rd.nil Rd.nil (by omega) (by omega)).mono ?_; rintro e w' ⟨rfl, q1, rfl⟩; simp only [sameT_refl]))
    go_ret
    exact ⟨rfl, below_drw hbw4 _⟩
  | false =>
    rw [hbad] at HC1 HC2
    have hbad2 : checkF ws zs mk = 0 ∧ ((runes (foldT s true)).length : Int) = lettersF ws zs mk := by
      unfold cutBad at hbad
      simpa using hbad
    obtain ⟨hz, hlen⟩ := hbad2
    obtain ⟨hok, _, _, _⟩ := check_ok hz
    obtain ⟨o1, o2, o3, o4⟩ := okZ_sum hok
    rw [letters_sum hz, o3] at hlen
    have hsc : ∀ r ∈ runes (foldT s true), Scalar r := by rw [runes_fold]; exact fun r hr => (foldR_cap _ r hr).1
    have hcat : catB (cutL zs (runes (foldT s true))) = foldT s true := by
      rw [← catB_foldr, cutL_cat zs _ (by omega), runes_fold, ← foldT_enc]
    have hcnt := cutL_count zs (runes (foldT s true)) hsc (by omega) (fun z hz => (o1 z hz).1)
    have hRl := cutL_length zs (runes (foldT s true))
    have hRs := cutL_size zs (runes (foldT s true))
    have hL24 : (runes (foldT s true)).length ≤ 24 := by omega
    have hm24 : m ≤ 24 := by
      have : ∀ (l : List Int), (∀ z ∈ l, 1 ≤ z) → l.length ≤ (l.map Int.toNat).sum := by
        intro l
        induction l with
        | nil => intro _; simp
        | cons x l ih =>
          intro h
          have := ih (fun z hz => h z (List.mem_cons_of_mem _ hz))
          have := h x (by simp)
          simp only [List.length_cons, List.map_cons, List.sum_cons]
          omega
      have := this zs (fun z hz => (o1 z hz).1)
      omega
    generalize foldT s true = F at hft hrl HF hcat hcnt hRl hRs hL24 HC1 HC2
    generalize hRR : cutL zs (runes F) = R at hcat hcnt hRl hRs HC1 HC2
    rw [hm] at hRl
    have HRs := Lib.hid (show ∀ x ∈ R, x.size ≤ 96 from fun x hx => by have := hRs x hx; omega)
    have HCnt := Lib.hid hcnt
    have HCat := Lib.hid hcat
    clear hc h4 hbad hft hrl hz hok o1 o2 o3 o4 hsc hcat hcnt hRs hRR hlen hL24
    have HC1' := Lib.hid (fun v W h => (HC1.out v W h).mono (show ∀ e w', CutTold W w' false R e → ∃ A c, e = .returned (.tuple #[.slice A m c, .bool true]) ∧ Rd w' 1 A m (R.map eS) ∧ Below W.heap.size W w' from fun e w' h => by
      obtain ⟨hb, ⟨h, _⟩ | ⟨_, A, c, he, q1, q2, q3⟩⟩ := h
      · cases h
      · rw [hRl] at he q3
        exact ⟨A, c, he, q3, hb⟩))
    have HC2' := Lib.hid (fun v W h => (HC2.out v W h).mono (show ∀ e w', CutTold W w' false R e → ∃ A c, e = .returned (.tuple #[.slice A m c, .bool true]) ∧ Rd w' 1 A m (R.map eS) ∧ Below W.heap.size W w' from fun e w' h => by
      obtain ⟨hb, ⟨h, _⟩ | ⟨_, A, c, he, q1, q2, q3⟩⟩ := h
      · cases h
      · rw [hRl] at he q3
        exact ⟨A, c, he, q3, hb⟩))
    have HRl := Lib.hid hRl
    clear HC1 HC2 hRl
    go_enter Tryz.func4, Tryz.ntmps4
    go_wp2_with (first
      | (go_at_call 7; refine (HA.out _ hv0).mono ?_; rintro e w1 ⟨rfl, hb1⟩; have g1 := (hb1.block _ (heap_lt hg0)).trans hg0; have hbw1 := below_then hb0 hb0.size hb1)
      | (refine wpList_load_row rfl 26 _ rfl w.heap.size rfl 26 _ (0, 0) _ g1 Tryz.underlying26 rfl rfl ?_)
      | (go_at_call 13; refine (HLe.out _ (ha0.keep hb1) (hbz0.keep hb1)).mono ?_; rintro e w2 ⟨⟨A2, c2, B2, d2, rfl, hcl2⟩, hb2⟩; have g2 := (hb2.block _ (heap_lt g1)).trans g1; have hbw2 := below_then hbw1 hbw1.size hb2)
      | (go_at_call 12; refine (HC1'.out _ _ hcl2).mono ?_; rintro e w3 ⟨A3, c3, rfl, hrd3, hb3⟩; have g3 := (hb3.block _ (heap_lt g2)).trans g2; have hbw3 := below_then hbw2 hbw2.size hb3)
      | (refine wpList_load_row rfl 26 _ rfl w.heap.size rfl 26 _ (0, 0) _ g3 Tryz.underlying26 rfl rfl ?_)
      | (go_at_call 14; refine (HC2'.out _ _ (((hcl0.keep hb1).keep hb2).keep hb3)).mono ?_; rintro e w4 ⟨A4, c4, rfl, hrd4, hb4⟩; have g4 := (hb4.block _ (heap_lt g3)).trans g3; have hbw4 := below_then hbw3 hbw3.size hb4; have hrd3' := hrd3.keep hb4)
      | (go_at_call 15; refine (RefSameTexts_any _ _ _ _ _ _ R R _ hrd3' hrd4 (by omega) (by omega)).mono ?_; rintro e w' ⟨rfl, q1, rfl⟩; simp only [sameT_refl]))
    have hbz4 := (((hbz0.keep hb1).keep hb2).keep hb3).keep hb4
    go_loopw [9, 40] (fun sv i wr => ∃ (k : Nat) (out : ByteArray), i = .int .i64 k ∧ sv = .string out ∧ k ≤ m ∧ out ++ catB (R.drop k) = F ∧ out.size ≤ 96 * k ∧ Below w4.heap.size w4 wr) (fun _ i _ => m - (intOf i).toNat)
    case atStart => exact ⟨0, ByteArray.empty, rfl, rfl, Nat.zero_le _, by simp [HCat.out], by simp, below_drw (Below.refl _ _) _⟩
    case round =>
      obtain ⟨k, out, rfl, rfl, hk, hacc, hos, hbr⟩ := hrel
      have hszr := hbr.size
      have hgr := (hbr.block _ (heap_lt g4)).trans g4
      have d1 := cell_of_row wr _ 1 _ _ _ hgr
      by_cases hlt : k < m
      · obtain ⟨b3, o3, x, rfl, hx, hcx⟩ := (hrd3'.keep hbr).at1 hlt
        obtain ⟨b, o, z, rfl, hxz, hcz⟩ := (hbz4.keep hbr).at1 hlt
        have hcn := HCnt.out k x z hx hxz
        have hxs := HRs.out x (List.mem_of_getElem? hx)
        rw [drop_cons hx, catB, ← ByteArray.append_assoc] at hacc
        have hce : ((seqs x).length : Int) = z := by rw [← hcn]; unfold runes; rw [List.length_map]
        have HCo := Lib.hid (fun W => (hce ▸ Count_any x W (by omega) : Calls Tryz.prog 16 #[.string x] W fun e w' => e = .returned (.int .i64 z) ∧ Below W.heap.size W w'))
        unfold eS at hcx
        unfold eZ at hcz
        have Hacc := Lib.hid hacc
        have hd1 : decide ((m : Int) ≤ (k : Int)) = false := by simp; omega
        have hd2 : decide (m ≤ k) = false := by simp; omega
        clear hacc hx hxz hcn hce
        go_wp2_with fail
        go_region_held3 (fun w' => w'.cell? ⟨w.heap.size, 1, none⟩ = some (.slice (some ⟨b, o, none⟩) m d) ∧ w'.cell? ⟨b, o + k, none⟩ = some (.int .i64 z)) (first | exact ⟨d1, hcz⟩ | exact ⟨cell_keep hb6 d1, cell_keep hb6 hcz⟩) (first | (go_at_call 16; refine (HCo.out _).mono ?_; rintro e w6 ⟨rfl, hb6⟩; replace hb6 := drew_below hb6))
        go_wp2
        go_roundw
        case rel => exact ⟨k + 1, _, by go_num, rfl, by omega, Hacc.out, by rw [ByteArray.size_append]; omega, below_then hbr hszr hb6⟩
        case measure => simp [intOf] <;> omega
      · rw [List.drop_of_length_le (by have := HRl.out; omega)] at hacc
        simp only [catB, ByteArray.append_empty] at hacc
        subst hacc
        clear HCat
        go_wp2_with (first
          | (go_at_call 17; refine (HF.out _).mono ?_; rintro e w6 ⟨rfl, hb6⟩; have g6 := (hb6.block _ (heap_lt hgr)).trans hgr; have d16 := cell_of_row w6 _ 1 _ _ _ g6; have hbr6 := below_then hbr hszr hb6))
        go_ret
        exact ⟨rfl, below_then hbw4 hbw4.size hbr6⟩
end Go.Proofs.YtbjgfjmknnbahaaGreatDoor

/-
  Proved: for every clue and answer, clue.Cut gives the document's pieces, each has as many runes as its size says, and together they are the answer's letters. The conditions: what is read is of bulk at most 1048576; the row's own (the seven package-level variables that it lists hold what the program's text lays).
-/
namespace Go.Proofs.YtbjgfjmknnbahaaGreatDoor.clueCuts
open Go.ChangeShapes Go.WideShapes Go.ChangeAt Go.RowKit
open Go.ChangeMaps (open_string shut_string)

theorem laidOut : laidOutB Tryz.prog = true := by kernel_rfl
theorem read0 : Tryz.prog.readableRec 26 = true := by kernel_rfl
theorem read1 : Tryz.prog.readableRec 9 = true := by kernel_rfl
set_option maxRecDepth 100000 in
theorem contract (H : Type) (enc : TypeId × Value → H) (W : World) (base : Nat) (args : Array Value) (ds gs : List (DataW H)) (before : List MemPlace)
    (hval : ∀ (j : Nat) t v, Tryz.f4.params[j]? = some t → args[j]? = some v → Value.okWide Tryz.prog W .any base t v)
    (hW : DataW.Whole enc Tryz.prog Tryz.f4.params.toList Rows.clueCutsSpec.vars false W args.toList ds gs before) (hk : Rows.uptoSmall H (ds ++ gs) = true) (hL : laidMetH Tryz.prog Rows.clueCutsUptoRow.laid W) :
    Calls Tryz.prog 4 args W fun e W' => ∃ v, e = .returned v ∧ Rows.clueCutsSpec.post enc Tryz.prog Tryz.f4 false true false false W args v W' := by
  have hW' := hW
  obtain ⟨p, q, hA0, hV, rfl, hfz, hnd⟩ := hW
  have hA : DataW.TrodAll enc Tryz.prog W 0 (fun _ => true) true Tryz.f4.params.toList args.toList ds p := hA0
  rw [Tryz.params4] at hA hval
  obtain ⟨v0, vs0, d0, ds0, p0, q0, hargs0, rfl, rfl, h0, r0⟩ := trodAll_cons hA
  obtain ⟨v1, vs1, d1, ds1, p1, q1, hargs1, rfl, rfl, h1, r1⟩ := trodAll_cons r0
  obtain ⟨rfl, rfl, rfl⟩ := trodAll_nil r1
  obtain rfl : args = #[v0, v1] := by cases args; simp_all
  obtain ⟨rfl, rfl⟩ := trodVars_none hV
  have hb0 : Rows.uptoBulkAll ([d0, d1] ++ []) ≤ 1048576 := of_decide_eq_true hk
  have hlt : ∀ x ∈ p0 ++ (p1 ++ []), x.block < W.heap.size := fun x hx => hW'.lt x (by simpa using hx)
  have fin : ∀ W', Below W.heap.size W W' → ∃ v, Ending.returned (.bool true) = .returned v ∧ Rows.clueCutsSpec.post enc Tryz.prog Tryz.f4 false true false false W #[v0, v1] v W' := fun W' hb =>
    ⟨_, rfl, post_of_below (pa := p0 ++ (p1 ++ [])) (pv := []) hW' (fun _ _ _ => trodAll_cons_mk (shut_bool Tryz.underlying4 _) trodAll_mk0) (fun sp hsp => trodAll_cons_mk (WideElems.Trod_stays laidOut read0 (of_decide_eq_true (by kernel_rfl)) h0 (fun x hx => hb.same (hlt x (by simp [hx]))) (fun x hx => hsp x (by simp [hx]))) (trodAll_cons_mk (WideElems.Trod_stays laidOut read1 (of_decide_eq_true (by kernel_rfl)) h1 (fun x hx => hb.same (hlt x (by simp [hx]))) (fun x hx => hsp x (by simp [hx]))) (trodAll_mk0))) (fun _ _ => rfl) rfl
      hb (ok_one (by kernel_rfl) rfl (okWide_bool_mk Tryz.underlying4 _))⟩
  simp only [List.append_nil, Rows.uptoBulkAll, Nat.add_zero] at hb0
  obtain ⟨A, n, c, B, m, d, ws, zs, mk, rfl, hcl, hA1, hB1, hbk0⟩ := read_clue (hval 0 26 _ rfl rfl) h0
  obtain ⟨s, rfl, rfl, hpp1, ws1⟩ := open_string Tryz.underlying9 (hval 1 9 _ rfl rfl) h1
  simp only [Rows.uptoBulk, ← Lib.size_eq] at hb0
  have hwm : ∀ x ∈ ws, x.size ≤ 1048576 := fun x hx => Nat.le_trans (catB_mem hx) (by omega)
  refine (ClueCuts_any A n c B m d ws zs mk s W hcl hA1 hB1 (by omega) (by omega) (by omega) hwm (by omega) (vars_of hL)).mono fun e W' ⟨he, hb⟩ => ?_
  subst he
  exact fin W' hb
theorem reads (os : Os) {H : Type} (enc : TypeId × Value → H) : ∃ places, DataW.whole enc Tryz.prog ((laidWorld os).forCall (fun _ _ => 0) ⟨#[], #[.agg #[.slice none 0 0, .slice none 0 0, .string ⟨#[]⟩], .string ⟨#[]⟩], []⟩).memory Tryz.f4.params.toList Rows.clueCutsSpec.vars false (#[.agg #[.slice none 0 0, .slice none 0 0, .string ⟨#[]⟩], .string ⟨#[]⟩] : Array Value).toList 8 = some ([.agg [.nil, .nil, .lit (.string [])], .lit (.string [])], [], places) :=
  ⟨[], by kernel_rfl⟩

set_option maxRecDepth 100000 in
theorem lifted (os : Os) (started : os.Started) (H : Type) (enc : TypeId × Value → H) (F : Stop.Interp) :
    ReturnsInHanded {} Tryz.checked os 4 .any ((Rows.OpenSpec.upto Rows.clueCutsSpec).preRow enc Tryz.prog Tryz.f4 Rows.clueCutsUptoRow.domain false Rows.clueCutsUptoRow.laid) (((Rows.OpenSpec.upto Rows.clueCutsSpec).at F).post enc Tryz.prog Tryz.f4 false true false false) := by
  obtain ⟨places, hx⟩ := reads os enc
  refine returnsInHanded_of_row (C := Tryz.checked) (s := Rows.OpenSpec.upto Rows.clueCutsSpec) own started (by kernel_rfl) Tryz.func4
    (witness_row_atRef (enc := enc) (C := Tryz.checked) false (laidWorld os) #[.agg #[.slice none 0 0, .slice none 0 0, .string ⟨#[]⟩], .string ⟨#[]⟩] rfl (by kernel_rfl) (by kernel_rfl) (by kernel_rfl)
      (OpenSpec.preRow_of_cond 8 hx (by kernel_rfl) (fun k hk => by cases hk; kernel_rfl) (by kernel_rfl) (laid_met os _))) ?_
  intro W base args ds gs before hval hW _ hcond _ hL _ _
  exact contract H enc W base args ds gs before hval hW (hcond _ rfl) hL
theorem said : Rows.ClueCutsUptoSaid :=
  OpenClaim.holds_of_cond 4 Tryz.f4 rfl rfl rfl rfl rfl rfl rfl ⟨rfl, rfl, rfl, rfl, rfl⟩ rfl rfl rfl rfl rfl (by kernel_rfl) Tryz.func4 (by kernel_rfl)
    (of_decide_eq_true (by kernel_rfl)) (by unfold Func.isWrapper; first | (rw [if_pos (by decide +kernel)]; kernel_rfl) | (rw [if_neg (by decide +kernel)]; exact ⟨rfl, rfl⟩))
    (fun os started H enc _ F => by rw [OpenClaim.pre_eq_preRow]; exact lifted os started H enc F)
theorem plain (f : FuncId) (fn : Func) (hf : Tryz.pinned.checked.prog.funcNamed "rebus/rebuslaw16.ClueCuts" = some f) (hfn : Tryz.pinned.checked.prog.funcs[f]? = some fn) :
    true = Tryz.pinned.checked.prog.looks [] ∧ ∀ (j : Nat) t, fn.params[j]? = some t → Tryz.pinned.checked.prog.wantsStandIn t = false := by
  obtain rfl : f = 4 := Option.some.inj ((show Tryz.prog.funcNamed "rebus/rebuslaw16.ClueCuts" = some 4 by kernel_rfl).symm.trans hf) |>.symm
  obtain rfl : fn = Tryz.f4 := (Option.some.inj (Tryz.func4.symm.trans hfn)).symm
  refine ⟨by kernel_rfl, fun j t ht => ?_⟩
  rw [Tryz.params4] at ht
  have hm := Array.mem_of_getElem? ht
  simp only [List.mem_toArray, List.mem_cons, List.not_mem_nil, or_false] at hm
  rcases hm with rfl | rfl
  · exact (show Tryz.prog.wantsStandIn 26 = false by kernel_rfl)
  · exact (show Tryz.prog.wantsStandIn 9 = false by kernel_rfl)
/-- The tied card of the second form. -/
theorem card : Rows.ClueCutsUptoCardSaid :=
  Claim7.holds_tied_plain_at .later [] _ _ _ _ said (fun _ h => by cases h) (by kernel_rfl) (fun _ h => by cases h) clueCutsUpto_row_tie rfl ⟨rfl, rfl⟩ (by kernel_rfl) rfl plain (by kernel_rfl)
end Go.Proofs.YtbjgfjmknnbahaaGreatDoor.clueCuts
