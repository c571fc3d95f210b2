/- Texts joined: Decimal, RefParse. -/
import Derived.Test.YtbjgfjmknnbahaaGreatDoorR8
import Derived.Test.YtbjgfjmknnbahaaGreatDoorR5
import Derived.Deep.RegionWith
import Derived.BigRegion
import Derived.Laws.Runes
import Derived.Laws.BitsLemmas
import Derived.Lib.ItoaNum
import Derived.Test.YtbjgfjmknnbahaaGreatDoorR3
import Derived.Test.YtbjgfjmknnbahaaGreatDoorR4
import Derived.Deep.RegionLaw
import Derived.Deep.RegionHeld3
import Derived.Deep.Cut
import Derived.Deep.DeepCutAuto
import Derived.Laws.CopyOwn
import Derived.Laws.Tables
/- Contract: rebusref07.Decimal: a number's decimal digits. -/
set_option linter.unusedVariables false
set_option linter.unusedSimpArgs false
namespace Go.Proofs.YtbjgfjmknnbahaaGreatDoor
open Go.RowKit

def decS (n : Nat) : ByteArray := ⟨(Lib.decDigits n).toArray⟩
theorem decS_small {n : Nat} (h : n < 10) : decS n = strOfNums [48 + (n : Int)] := by
  unfold decS strOfNums
  rw [Lib.decDigits_one h]
  congr 3
theorem decS_big {n : Nat} (h : ¬ n < 10) : decS n = decS (n / 10) ++ strOfNums [48 + (n : Int) % 10] := by
  apply ByteArray.ext
  apply Array.toList_inj.1
  unfold decS strOfNums
  rw [ByteArray.data_append, Array.toList_append, Lib.decDigits, dif_neg h]
  simp only [List.map_cons, List.map_nil]
  congr 3
theorem decS_size (n : Nat) : (decS n).size = Lib.nDigits n := by
  show (Lib.decDigits n).toArray.size = _
  rw [List.size_toArray, Lib.decDigits_length]
theorem nDigits_le (n : Nat) : Lib.nDigits n ≤ n + 1 := by
  induction n using Nat.strongRecOn with
  | _ n ih =>
    by_cases h : n < 10
    · rw [Lib.nDigits_small h]; omega
    · rw [Lib.nDigits_big h]
      have := ih (n / 10) (by omega)
      omega

theorem conv_one (x : Int) (g : Nat) (W : World) (hc : W.cell? ⟨g, 0, none⟩ = some (.int .u8 x)) : (convert 72 9 (.slice (some ⟨g, 0, none⟩) 1 1)).run Tryz.prog W = .ok (.string (strOfNums [x])) W := by
  refine run_convert_bytes_arg _ _ 5 Tryz.underlying72 Tryz.underlying5 _ 0 _ _ [x] rfl (fun i hi => ?_) _ Tryz.underlying9
  obtain rfl : i = 0 := by simp only [List.length_cons, List.length_nil] at hi; omega
  exact hc
theorem drew_below {B : Nat} {w w2 : World} (h : Below B w.drew w2) : Below B w w2 := ⟨h.os, h.tape, h.output, h.size, h.block⟩
theorem alloc_below {w w2 : World} {o : Obj} (h : Below (w.alloc o).heap.size (w.alloc o) w2) : Below w.heap.size w w2 :=
  below_then ((Below.refl _ _).alloc (Nat.le_refl _) _) (by simp) h
theorem cell_new0 (w : World) (x : Value) (t : TypeId) : (w.alloc (.cells #[x] t)).cell? ⟨w.heap.size, 0, none⟩ = some x := by
  have := cell_one_new w x t 0 x rfl
  exact this

set_option maxHeartbeats 4000000 in
set_option maxRecDepth 100000 in
theorem RefDecimal_any : ∀ (n : Nat) (w : World), n ≤ 1000000000000 →
    Calls Tryz.prog 59 #[.int .i64 n] w fun e w' => e = .returned (.string (decS n)) ∧ Below w.heap.size w w' := by
  intro n
  induction n using Nat.strongRecOn with
  | _ n ih =>
    intro w hn
    by_cases h : n < 10
    · rw [decS_small h]
      have k1 := fun (W : World) => conv_lit [48 + (n : Int)] W
      simp only [List.map_cons, List.map_nil, List.length_cons, List.length_nil, Nat.zero_add, Nat.reduceAdd] at k1
      clear ih
      go_enter Tryz.func59, Tryz.ntmps59
      go_wp2
      go_ret
      exact ⟨rfl, (Below.refl _ _).alloc (Nat.le_refl _) _⟩
    · rw [decS_big h]
      obtain ⟨r, hr⟩ : ∃ r : Nat, r = n % 10 := ⟨_, rfl⟩
      obtain ⟨m, hm⟩ : ∃ m : Nat, m = n / 10 := ⟨_, rfl⟩
      have hr2 : (n : Int) % 10 = (r : Int) := by omega
      rw [hr2, ← hm]
      have k1 := fun (W : World) => conv_lit [48 + (r : Int)] W
      simp only [List.map_cons, List.map_nil, List.length_cons, List.length_nil, Nat.zero_add, Nat.reduceAdd] at k1
      have hs := decS_size m
      have hs2 := nDigits_le m
      have hd : (n : Int).tdiv 10 = (m : Int) := by rw [Int.tdiv_eq_ediv_of_nonneg (by omega)]; omega
      have hd2 : (n : Int) / 10 = (m : Int) := by omega
      have ht : (n : Int).tmod 10 = (r : Int) := by rw [Int.tmod_eq_emod_of_nonneg (by omega)]; exact hr2
      have hw1 : IntKind.i64.wrap (m : Int) = (m : Int) := wrap_small _ (by omega) (by omega)
      have hw2 : IntKind.i64.wrap (48 + (r : Int)) = 48 + (r : Int) := wrap_small _ (by omega) (by omega)
      have hw3 : IntKind.u8.wrap (48 + (r : Int)) = 48 + (r : Int) := by rw [IntKind.wrap_u8]; omega
      have hq := Lib.hid (fun W => ih m (by omega) W (by omega))
      have hr9 : r < 10 := by omega
      have hmb : m ≤ 100000000000 := by omega
      have hs3 : (decS m).size ≤ 100000000001 := by omega
      have hs4 : (strOfNums [48 + (r : Int)]).size = 1 := by rw [strOfNums_size]; rfl
      have k3 := conv_one (48 + (r : Int)) w.heap.size (World.drew (w.alloc (.cells #[.int .u8 (48 + (r : Int))] 5))) (cell_new0 w _ _)
      clear ih hr hm hr2 hs hs2
      go_enter Tryz.func59, Tryz.ntmps59
      go_wp2
      go_region_with (go_at_call 59; refine (hq.out _).mono ?_; rintro e w2 ⟨rfl, hb2⟩; try (have hc2 : w2.cell? ⟨w.heap.size, 0, none⟩ = some (.int .u8 (48 + (r : Int))) := cell_keep hb2 (show (World.drew (w.alloc (.cells #[.int .u8 (48 + (r : Int))] 5))).cell? ⟨w.heap.size, 0, none⟩ = some (.int .u8 (48 + (r : Int))) from cell_new0 w _ _); have k2 := conv_one _ _ _ hc2))
      all_goals (go_wp2; go_ret)
      all_goals (refine ⟨rfl, ?_⟩)
      · exact (drew_below hb2).alloc (drew_below hb2).size _
      · exact alloc_below (drew_below hb2)
      · exact alloc_below (drew_below hb2)
end Go.Proofs.YtbjgfjmknnbahaaGreatDoor

/- Contract: rebusref16.Parse. -/
set_option linter.unusedVariables false
set_option linter.unusedSimpArgs false
namespace Go.Proofs.YtbjgfjmknnbahaaGreatDoor
open Go.RowKit

theorem results_cell_row3 {P : Program} {fn : Func} {p u1 u2 : Tmp} {ty : TypeId} (h : fn.results = #[.cell p ty, .tmp u1, .tmp u2]) (tmps : Array Value) (w : World) (g : Nat) (t : TypeId) (cs : Array Value) (fr : Nat × Nat) (d : TypeDesc)
    (hp : tmps.getD p undef = .pointer (some ⟨g, 0, none⟩)) (hg : w.heap[g]? = some (.cells cs t fr))
    (hu : P.underlying ty = some d) (hd : (match d with | .struct _ | .array _ _ => true | _ => false) = true) (hi : (P.info? ty).map (·.size) = some cs.size) :
    (results fn tmps).run P w = .ok (.tuple #[.agg cs, tmps.getD u1 undef, tmps.getD u2 undef]) w := by
  have hp' : tmps[p]?.getD undef = .pointer (some ⟨g, 0, none⟩) := by simpa using hp
  simp [results, h, hp', asAddr, run_loadVar_row w g t ty cs fr d hg hu hd hi]
theorem one3 (A : Option Addr) (n c : Nat) (B : Option Addr) (m d : Nat) (mk : ByteArray) : (#[Value.slice A n c, Value.slice B m d, Value.string mk]).all (·.oneCell') = true := by simp [Value.oneCell']
theorem RefSizes_some (s : ByteArray) (l : List Nat) (mk : ByteArray) (w : World) (hs : s.size ≤ 4294967296) (h : sizesF s = some (l, mk)) :
    Calls Tryz.prog 35 #[.string s] w fun e w' => ∃ A c, e = .returned (.tuple #[.slice A l.length c, .string mk, .bool true]) ∧ l.length ≤ c ∧ c ≤ maxLen ∧ w'.ownsRow w.heap.size 3 1 (.slice A l.length c) l.length (l.map eI) ∧ Rd w' 1 A l.length (l.map eI) ∧ Below w.heap.size w w' := by
  refine (RefSizes_any s w hs).mono ?_
  rintro e w' ⟨hb, ⟨l', mk', A, c, hR, rfl, h1, h2, h3, h4⟩ | ⟨hR, _⟩⟩
  · rw [h] at hR
    injection hR with hR
    injection hR with e1 e2
    subst e1; subst e2
    exact ⟨A, c, rfl, h1, h2, h3, h4, hb⟩
  · rw [h] at hR; cases hR
theorem RefSizes_none (s : ByteArray) (w : World) (hs : s.size ≤ 4294967296) (h : sizesF s = none) :
    Calls Tryz.prog 35 #[.string s] w fun e w' => ∃ v mk, e = .returned (.tuple #[v, .string mk, .bool false]) ∧ Below w.heap.size w w' := by
  refine (RefSizes_any s w hs).mono ?_
  rintro e w' ⟨hb, ⟨l', mk', A, c, hR, rfl, h1, h2, h3, h4⟩ | ⟨hR, v, mk, rfl⟩⟩
  · rw [h] at hR; cases hR
  · exact ⟨v, mk, rfl, hb⟩
theorem set3_heap {w : World} {g : Nat} {x y z a b c : Value} {t : TypeId} (h : w.heap[g]? = some (.cells #[x, y, z] t (0, 0))) : ((((w.setCell ⟨g, 0, none⟩ a).setCell ⟨g, 1, none⟩ b).setCell ⟨g, 2, none⟩ c).drew).heap[g]? = some (.cells #[a, b, c] t (0, 0)) := by
  show ((((w.setCell ⟨g, 0, none⟩ a).setCell ⟨g, 1, none⟩ b).setCell ⟨g, 2, none⟩ c)).heap[g]? = _
  rw [setCell_eq_setRow w g 0 _ t _ a h]
  have h1 := setRow_heap w g _ (Array.setIfInBounds #[x, y, z] 0 a) t _ h
  rw [setCell_eq_setRow _ g 1 _ t _ b h1]
  have h2 := setRow_heap _ g _ (Array.setIfInBounds (Array.setIfInBounds #[x, y, z] 0 a) 1 b) t _ h1
  rw [setCell_eq_setRow _ g 2 _ t _ c h2]
  exact setRow_heap _ g _ _ t _ h2
theorem set3_below {g : Nat} {w0 w : World} {a b c : Value} (h : Below g w0 w) : Below g w0 ((((w.setCell ⟨g, 0, none⟩ a).setCell ⟨g, 1, none⟩ b).setCell ⟨g, 2, none⟩ c).drew) :=
  (((h.setCell (Nat.le_refl _) _).setCell (Nat.le_refl _) _).setCell (Nat.le_refl _) _).drew
theorem mapZ (l : List Nat) : (l.map Int.ofNat).map eZ = l.map eI := by
  rw [List.map_map]
  apply List.map_congr_left
  intro x _
  rfl
/-- What is told of a text read: the clue, the place, the error. -/
def PTold (w w' : World) (R : Parsed) (e : Ending) : Prop :=
  Below w.heap.size w w' ∧ ∃ v, e = .returned (.tuple #[v, .int .i64 (R.2.2.2.1 : Int), .int .i64 (R.2.2.2.2 : Int)]) ∧ IsClue w' v R.1 (R.2.1.map Int.ofNat) R.2.2.1
theorem told_ok {w w' : World} {R : Parsed} {v : Value} {ws : List ByteArray} {l : List Nat} {mk : ByteArray} (hb : Below w.heap.size w w') (hR : (ws, l, mk, 0, 0) = R) (hc : IsClue w' v ws (l.map Int.ofNat) mk) :
    PTold w w' R (.returned (.tuple #[v, .int .i64 0, .int .i64 0])) := by
  subst hR
  exact ⟨hb, v, rfl, hc⟩
theorem told_bad {w w' : World} {R : Parsed} {a b : Nat} {x y : Int} (hb : Below w.heap.size w w') (hR : parseBad a b = R) (hx : x = a) (hy : y = b) :
    PTold w w' R (.returned (.tuple #[.agg #[.slice none 0 0, .slice none 0 0, .string ⟨#[]⟩], .int .i64 x, .int .i64 y])) := by
  subst hR; subst hx; subst hy
  exact ⟨hb, _, rfl, ⟨none, 0, 0, none, 0, 0, rfl, Rd.nil, Rd.nil, Nat.le_refl _, Nat.le_refl _, Nat.zero_le _, Nat.zero_le _, rfl, rfl⟩⟩

set_option maxHeartbeats 4000000 in
set_option maxRecDepth 100000 in
theorem RefParse_big (s : ByteArray) (w : World) (hs : 65536 < s.size) (R : Parsed) (hR : parseBad 65536 1 = R) :
    Calls Tryz.prog 9 #[.string s] w fun e w' => PTold w w' R e := by
  have HR := Lib.hid hR
  clear hR
  go_enter Tryz.func9, Tryz.ntmps9
  go_wp2
  refine bodyPost_ret (results_cell_row3 rfl _ _ w.heap.size 26 _ (0, 0) _ rfl (heap_alloc_new w _) Tryz.underlying26 rfl rfl) rfl ?_
  exact told_bad ((Below.refl _ _).alloc (Nat.le_refl _) _) HR.out rfl rfl

set_option maxHeartbeats 4000000 in
set_option maxRecDepth 100000 in
theorem RefParse_L (s : ByteArray) (L Ps : List Nat) (n : Nat) (w : World) (hs : s.size ≤ 65536) (hnL : L.length = n) (hnP : Ps.length = n) (hls : n ≤ s.size) (hre : ∀ r ∈ L, r ≤ 1114111)
    (hlt : ∀ (i x : Nat), Ps[i]? = some x → x < s.size) (hmono : ∀ (i j : Nat) (x y : Nat), i < j → Ps[i]? = some x → Ps[j]? = some y → x < y)
    (hR : ∀ W, Calls Tryz.prog 32 #[.string s] W fun e w' => Made W w' 21 1 n (L.map eR) e)
    (hP : ∀ W, Calls Tryz.prog 33 #[.string s] W fun e w' => Made W w' 3 1 n (Ps.map eI) e) :
    Calls Tryz.prog 9 #[.string s] w fun e w' => PTold w w' (parseL s L Ps) e := by
  obtain ⟨R, hRR⟩ : ∃ R, parseL s L Ps = R := ⟨_, rfl⟩
  obtain ⟨E, hEn⟩ : ∃ E, endL L n = E := ⟨_, rfl⟩
  have hEl : E ≤ n := by rw [← hEn]; exact endL_le L n
  rw [hRR]
  unfold parseL at hRR
  rw [if_neg (by omega), hnL, hEn] at hRR
  have HEn := Lib.hid hEn
  clear hEn
  have HRR := Lib.hid hRR
  have HR := Lib.hid hR
  have HP := Lib.hid hP
  have HM := Lib.hid hmono
  have HE := Lib.hid hre
  clear hR hP hRR hmono hre
  go_enter Tryz.func9, Tryz.ntmps9
  go_wp2_with (first
    | (go_at_call 32; refine (HR.out _).mono ?_; rintro e w1 ⟨A, c, rfl, hnc, hcm, hown1, hrd1, hb1⟩)
    | (go_at_call 33; refine (HP.out _).mono ?_; rintro e w2 ⟨B, d, rfl, hnd, hdm, hown2, hrd2, hb2⟩))
  have h2 : w2.heap[w.heap.size]? = some (.cells #[.slice none 0 0, .slice none 0 0, .string ⟨#[]⟩] 26 (0, 0)) := by
    rw [hb2.block _ (by have := hb1.size; simp at this; omega), hb1.block _ (by simp)]
    exact heap_alloc_new w _
  have hbw : Below w.heap.size w w2 := below_then (alloc_below hb1) (alloc_below hb1).size hb2
  replace hrd1 := hrd1.keep hb2
  have hBg : ∀ b o, B = some ⟨b, o, none⟩ → b ≠ w.heap.size := fun b o e => by
    subst e
    have h3 := own_block hown2
    have h4 := hb1.size
    simp at h4
    omega
  have HBg := Lib.hid hBg
  clear hb1 hown1 hb2 hown2 hBg
  go_loopw [7] (fun v wr => ∃ k, v = .int .i64 (k : Nat) ∧ k ≤ n ∧ endL L k = E ∧ wr = w2) (fun v _ => (intOf v).toNat)
  case atStart => exact ⟨n, rfl, Nat.le_refl _, HEn.out, rfl⟩
  case round =>
    obtain ⟨k, rfl, hk, hend, rfl⟩ := hrel
    cases k with
    | zero =>
      obtain rfl : E = 0 := hend.symm
      have hRR := HRR.out
      simp only [openL] at hRR
      clear HRR
      have HRR := Lib.hid hRR
      clear hRR
      go_wp2
      refine wp_loop_rounds 1 ?_
      rw [rounds_succ]
      go_wp2_with (refine wpList_store_row rfl 26 _ _ rfl w.heap.size #[.slice none 0 0, .slice none 0 0, .string ⟨#[]⟩] rfl rfl 26 _ h2 rfl rfl (one3 _ _ _ _ _ _ _) ?_)
      (try simp only [Exit.inBlock, Exit.then]); refine bodyPost_ret (results_cell_row3 rfl _ _ w.heap.size 26 _ (0, 0) _ rfl (setRow_heap _ _ _ _ _ _ h2) Tryz.underlying26 rfl rfl) rfl ?_
      exact told_bad (below_setRow hbw (Nat.le_refl _) _) HRR.out rfl rfl
    | succ k =>
      obtain ⟨b, o, x, rfl, hx, hc⟩ := hrd1.at1 (i := k) (by omega)
      have hxm := HE.out x (List.mem_of_getElem? hx)
      unfold endL at hend
      rw [getD_at hx] at hend
      unfold eR at hc
      by_cases hcl : cls (x : Int) = 3
      · rw [if_pos hcl] at hend
        have Hc := Lib.hid hcl
        have Hend := Lib.hid hend
        clear hcl hend hx
        go_wp2_with (go_at_call 34; refine (RefClass_any _ _ (by omega) (by omega)).mono ?_; rintro e w' ⟨rfl, rfl⟩; rw [Hc.out])
        go_roundw
        case rel => exact ⟨k, by go_num, by omega, Hend.out, trivial⟩
        case measure => simp [intOf] <;> omega
      · rw [if_neg hcl] at hend
        subst hend
        have hcb : (cls (x : Int) == 3) = false := by simp [hcl]
        have hRR := HRR.out
        rw [show k + 1 - 1 = k from rfl, getD_at hx] at hRR
        clear HRR
        have HRR := Lib.hid hRR
        clear hRR
        clear hcl
        go_wp2_with (go_at_call 34; refine (RefClass_any _ _ (by omega) (by omega)).mono ?_; rintro e w' ⟨rfl, rfl⟩)
        have hRR := HRR.out
        obtain ⟨O, hO⟩ : ∃ O, openL L (k + 1) = O := ⟨_, rfl⟩
        rw [hO] at hRR
        clear HRR
        have HRR := Lib.hid hRR
        have HO := Lib.hid hO
        clear hRR hO
        go_loopw [8] (fun v wr2 => ∃ j : Nat, v = .int .i64 ((j : Int) - 1) ∧ j ≤ k + 1 ∧ openL L j = O ∧ wr2 = wr) (fun v _ => (intOf v + 1).toNat)
        case atStart => exact ⟨k + 1, by go_num, Nat.le_refl _, HO.out, rfl⟩
        case round =>
          obtain ⟨j, rfl, hj, hop, rfl⟩ := hrel
          cases j with
          | zero =>
            have hRR := HRR.out
            rw [← hop] at hRR
            simp only [openL] at hRR
            clear HRR
            have HRR := Lib.hid hRR
            clear hRR
            by_cases hx41 : x = 41
            · subst hx41
              go_wp2_with (refine wpList_store_row rfl 26 _ _ rfl w.heap.size #[.slice none 0 0, .slice none 0 0, .string ⟨#[]⟩] rfl rfl 26 _ h2 rfl rfl (one3 _ _ _ _ _ _ _) ?_)
              (try simp only [Exit.inBlock, Exit.then]); refine bodyPost_ret (results_cell_row3 rfl _ _ w.heap.size 26 _ (0, 0) _ rfl (setRow_heap _ _ _ _ _ _ h2) Tryz.underlying26 rfl rfl) rfl ?_
              exact told_bad (below_setRow hbw (Nat.le_refl _) _) HRR.out rfl rfl
            · have hxb : ((x : Int) != 41) = true := by simp; omega
              clear hx41
              go_wp2_with (refine wpList_store_row rfl 26 _ _ rfl w.heap.size #[.slice none 0 0, .slice none 0 0, .string ⟨#[]⟩] rfl rfl 26 _ h2 rfl rfl (one3 _ _ _ _ _ _ _) ?_)
              (try simp only [Exit.inBlock, Exit.then]); refine bodyPost_ret (results_cell_row3 rfl _ _ w.heap.size 26 _ (0, 0) _ rfl (setRow_heap _ _ _ _ _ _ h2) Tryz.underlying26 rfl rfl) rfl ?_
              exact told_bad (below_setRow hbw (Nat.le_refl _) _) HRR.out rfl rfl
          | succ j =>
            obtain ⟨b', o', y, hbo, hy, hcy⟩ := hrd1.at1 (i := j) (by omega)
            injection hbo with hbo
            injection hbo with hbo1 hbo2 _
            subst hbo1; subst hbo2
            unfold openL at hop
            rw [getD_at hy] at hop
            unfold eR at hcy
            by_cases hy40 : y = 40
            · subst hy40
              rw [if_pos rfl] at hop
              have hRR := HRR.out
              rw [← hop] at hRR
              simp only [Nat.add_one_ne_zero, false_or, ne_eq, ite_not] at hRR
              by_cases hx41 : x = 41
              · rw [if_pos hx41] at hRR
                have hjk : j < k := by
                  rcases Nat.lt_or_ge j k with h | h
                  · exact h
                  · exfalso
                    obtain rfl : j = k := by omega
                    rw [hx] at hy
                    injection hy with hy
                    omega
                obtain ⟨b2, o2, pj, hbo, hpj, hcj⟩ := hrd2.at1 (i := j) (by omega)
                have hbne := HBg.out b2 o2 hbo
                subst hbo
                clear HBg
                obtain ⟨b3, o3, pk, hbo, hpk, hck⟩ := hrd2.at1 (i := k) (by omega)
                injection hbo with hbo
                injection hbo with hbo1 hbo2 _
                subst hbo1; subst hbo2
                have hpl := HM.out j k pj pk hjk hpj hpk
                have hps := hlt k pk hpk
                rw [getD_at hpj, getD_at hpk] at hRR
                unfold parseTail at hRR
                unfold eI at hcj hck
                clear HRR
                have HRR := Lib.hid hRR
                clear hRR hop hpj hpk hy hx
                have hxb : ((x : Int) != 41) = false := by simp; omega
                have hk0 : ((k : Int) + 1 == 0) = false := by simp; omega
                have hj0 : ¬ ((j : Int) < 0) := by omega
                have hq1 : (pj : Int) + 1 ≤ (pk : Int) := by omega
                have hq2 : (pk : Int) ≤ (s.size : Int) := by omega
                have hq3 : (0 : Int) ≤ (pj : Int) + 1 := by omega
                have hq5 : IntKind.i64.wrap (k : Int) = (k : Int) := wrap_small _ (by omega) (by omega)
                have hq6 : (k : Int) < (n : Int) := by omega
                have hq7 : (j : Int) < (n : Int) := by omega
                have hq4 : IntKind.i64.wrap ((pj : Int) + 1) = (pj : Int) + 1 := wrap_small _ (by omega) (by omega)
                clear hx41
                have hez : (s.extract (pj + 1) pk).size ≤ 4294967296 := by rw [ByteArray.size_extract]; omega
                cases hz : sizesF (s.extract (pj + 1) pk) with
                | none =>
                  have Hz := Lib.hid hz
                  have hRR := HRR.out
                  rw [hz] at hRR
                  simp only at hRR
                  clear HRR hz
                  have HRR := Lib.hid hRR
                  clear hRR
                  go_wp2_with fail
                  go_region_with (go_at_call 35; refine (RefSizes_none _ _ hez Hz.out).mono ?_; rintro e w3 ⟨v3, mk3, rfl, hb3⟩; replace hb3 := drew_below hb3; have h23 := hb3.block _ (heap_lt h2); rw [h2] at h23; have c0 := cell_of_row w3 _ 0 _ _ _ h23; have c1 := cell_of_row w3 _ 1 _ _ _ h23; have c2 := cell_of_row w3 _ 2 _ _ _ h23; have f0 := frozen_row h23 0; have f1 := frozen_row h23 1; have f2 := frozen_row h23 2; have hcj3 := cell_keep hb3 hcj)
                  all_goals (go_wp2_with fail)
                  all_goals (go_region)
                  all_goals (go_wp2)
                  all_goals (
                    (try simp only [Exit.inBlock, Exit.then])
                    refine bodyPost_ret (results_cell_row3 rfl _ _ w.heap.size 26 _ (0, 0) _ rfl (set3_heap h23) Tryz.underlying26 rfl rfl) rfl ?_
                    exact told_bad (set3_below (below_then hbw hbw.size hb3)) HRR.out rfl rfl)
                | some q =>
                  obtain ⟨l, mk⟩ := q
                  have Hz := Lib.hid hz
                  have hRR := HRR.out
                  rw [hz] at hRR
                  simp only at hRR
                  clear HRR hz
                  have HRR := Lib.hid hRR
                  clear hRR
                  have hpjs : (s.extract 0 pj).size ≤ 65536 := by rw [ByteArray.size_extract]; omega
                  have hRR := HRR.out
                  obtain ⟨ws, hws⟩ : ∃ ws, wordsL (s.extract 0 pj) = ws := ⟨_, rfl⟩
                  rw [hws] at hRR
                  clear HRR
                  have HRR := Lib.hid hRR
                  have hwl : ws.length ≤ 65537 := by rw [← hws]; have := wordsL_length (s.extract 0 pj); omega
                  have hwz : ∀ x ∈ ws, x.size ≤ 65536 := by rw [← hws]; intro x hx; have := wordsL_size _ x hx; omega
                  have HWZ := Lib.hid hwz
                  have hWW : ∀ W, Calls Tryz.prog 36 #[.string (s.extract 0 pj)] W fun e w' => Made W w' 9 1 ws.length (ws.map eS) e := by rw [← hws]; exact fun W => RefWords_any _ W (by omega)
                  have HW := Lib.hid hWW
                  clear hWW
                  clear hRR hws hwz
                  obtain ⟨i0, hi, hz0, hz1, hz2⟩ := info_parts info_str
                  go_wp2_with fail
                  go_region_held3 (fun w' => w'.cell? ⟨b2, o2 + j, none⟩ = some (.int .i64 pj) ∧ w'.cell? ⟨b2, o2 + k, none⟩ = some (.int .i64 pk)) (first | exact ⟨hcj, hck⟩ | exact ⟨cell_keep hb3 hcj, cell_keep hb3 hck⟩) (first | (go_at_call 35; refine (RefSizes_some _ _ _ _ hez Hz.out).mono ?_; rintro e w3 ⟨A3, c3, rfl, hlc3, hcm3, hown3, hrd3, hb3⟩; replace hb3 := drew_below hb3))
                  have h23 := hb3.block _ (heap_lt h2); rw [h2] at h23
                  have hcj3 := cell_keep hb3 hcj
                  have hcj4 : (w3.alloc (.cells #[.slice none 0 0, .slice A3 l.length c3, .string mk] 26)).cell? ⟨b2, o2 + j, none⟩ = some (.int .i64 pj) := cell_keep ((Below.refl _ _).alloc (Nat.le_refl _) _) hcj3
                  go_wp2_with (first
                    | (go_at_call 36; refine (HW.out _).mono ?_; rintro e w5 ⟨A5, c5, rfl, hnc5, hcm5, hown5, hrd5, hb5⟩))
                  have hal : (w3.alloc (.cells #[.slice none 0 0, .slice A3 l.length c3, .string mk] 26)).heap.size = w3.heap.size + 1 := by simp
                  have h12 : w5.heap[w3.heap.size]? = some (.cells #[.slice none 0 0, .slice A3 l.length c3, .string mk] 26 (0, 0)) := (hb5.block _ (by omega)).trans (heap_alloc_new w3 _)
                  have hlt23 := heap_lt h23
                  have h25 : w5.heap[w.heap.size]? = some (.cells #[.slice none 0 0, .slice none 0 0, .string ⟨#[]⟩] 26 (0, 0)) := ((hb5.block _ (by omega)).trans (heap_alloc_old w3 _ (by omega))).trans h23
                  have hb35 : Below w3.heap.size w3 w5 := alloc_below hb5
                  have hrd35 := hrd3.keep hb35
                  have hA3n : ∀ b o, A3 = some ⟨b, o, none⟩ → b ≠ w.heap.size := fun b o e => by
                    subst e
                    have h3 := own_block hown3
                    have h4 := heap_lt h2
                    have h5 : wr.drew.heap.size = wr.heap.size := rfl
                    omega
                  have HA3n := Lib.hid hA3n
                  have hA3 : ∀ b o, A3 = some ⟨b, o, none⟩ → 0 < l.length → b < w3.heap.size := fun b o e h0 => by
                    obtain ⟨b', o', e', hc'⟩ := hrd3.2 h0
                    rw [e] at e'
                    injection e' with e'
                    injection e' with e1 e2 _
                    subst e1
                    have hl : 0 < (l.map eI).length := by simpa using h0
                    exact World.block_lt_of_cell? w3 _ (hc' 0 _ (List.getElem?_eq_getElem hl))
                  have hA5 : ∀ b o, A5 = some ⟨b, o, none⟩ → b ≠ w3.heap.size := fun b o e => by
                    subst e
                    have h3 := own_block hown5
                    omega
                  have hbw5 : Below w.heap.size w w5 := (below_then (below_then hbw hbw.size hb3) (by have := hb3.size; have := hbw.size; omega) hb35)
                  have h5s := hb35.size
                  have HA3 := Lib.hid hA3
                  have HA5 := Lib.hid hA5
                  have hAp := Apart.refl w3.heap.size w5
                  clear hA3 hA3n hA5 hown5 hown3 hcj3 hcj4 hal hrd1 hrd2 hcj hck hc hcy
                  go_loopw [14] (fun v wr2 => ∃ (i : Nat) (vc : Value) (acc : List ByteArray), v = .int .i64 i ∧ i ≤ ws.length ∧ wr2.heap[w3.heap.size]? = some (.cells #[vc, .slice A3 l.length c3, .string mk] 26 (0, 0)) ∧ wr2.ownsRow w5.heap.size 9 1 vc acc.length (acc.map eS) ∧ acc ++ keepW (ws.drop i) = keepW ws ∧ acc.length ≤ i ∧ Apart w3.heap.size w5 wr2) (fun v _ => ws.length - (intOf v).toNat)
                  case atStart => exact ⟨0, _, [], rfl, Nat.zero_le _, h12, World.ownsRow_nil _ _ _ _, by simp, by simp, hAp⟩
                  case round =>
                    obtain ⟨i, vc, acc, rfl, hi', hg12, hown, hacc, hal', hap⟩ := hrel
                    by_cases hlt' : i < ws.length
                    · obtain ⟨b5, o5, x, hA5e, hx, hcx0⟩ := hrd5.at1 hlt'
                      have hb5lt : b5 < w5.heap.size := World.block_lt_of_cell? w5 _ hcx0
                      have hne5 := HA5.out b5 o5 hA5e
                      subst hA5e
                      have hcx := hap.cell hne5 hcx0
                      clear hcx0
                      have hxz := HWZ.out x (List.mem_of_getElem? hx)
                      rw [drop_cons hx, keepW_cons] at hacc
                      unfold eS at hcx
                      cases hne : neW x with
                      | false =>
                        rw [hne] at hacc
                        simp only [Bool.false_eq_true, if_false] at hacc
                        have Hacc := Lib.hid hacc
                        have hfo := Lib.hid (neW_false hne)
                        clear hacc hx hne
                        go_wp2_with (first
                          | (go_at_call 37; refine (RefFold_any x true _ (by omega)).mono ?_; rintro e w6 ⟨rfl, hb6⟩; rw [hfo.out]))
                        go_roundw
                        case rel => exact ⟨i + 1, vc, acc, by go_num, by omega, (hb6.block _ (heap_lt hg12)).trans hg12, own_keep hown hb6, Hacc.out, by omega, hap.step hb6⟩
                        case measure => simp [intOf] <;> omega
                      | true =>
                        rw [hne] at hacc
                        simp only [if_true] at hacc
                        have hacc' : (acc ++ [x]) ++ keepW (ws.drop (i + 1)) = keepW ws := by rw [List.append_assoc]; exact hacc
                        have Hacc := Lib.hid hacc'
                        have hfo : ((foldT x true).toList == []) = false := by
                          have h0 := neW_true hne
                          cases h1 : (foldT x true).toList with
                          | nil => exact absurd (by rw [Lib.toList_data] at h1; show (foldT x true).data.size = 0; rw [← Array.length_toList, h1]; rfl) h0
                          | cons a l => rfl
                        clear hacc hacc' hx hne
                        go_wp2_with (first
                          | (go_at_call 37; refine (RefFold_any x true _ (by omega)).mono ?_; rintro e w6 ⟨rfl, hb6⟩))
                        have hg6 := (hb6.block _ (heap_lt hg12)).trans hg12
                        have hc6 := cell_of_row w6 _ 0 _ _ _ hg6
                        have hf6 := frozen_row hg6 0
                        have hcx6 := cell_keep hb6 hcx
                        have hown6 := own_keep hown hb6
                        have hap6 := hap.step hb6
                        have hs6 := hap6.size
                        have h35 := heap_lt h12
                        have hci : (0 : Int) ≤ (i : Int) := by omega
                        have hci2 : (i : Int) < (ws.length : Int) := by omega
                        have hbl : Below w6.heap.size w6 (w6.alloc (.cells #[.string x] 9)) := (Below.refl _ _).alloc (Nat.le_refl _) _
                        have hnb : some w3.heap.size ≠ vc.ownBlock := fun e => by have := (hown6.lt _ e.symm).1; omega
                        have hnb5 : some b5 ≠ vc.ownBlock := fun e => by have := (hown6.lt _ e.symm).1; omega
                        have hc6a := cell_keep hbl hc6
                        have hcx6a := cell_keep hbl hcx6
                        go_region_law
                          ((refine step_append_lies _ (by rfl) _ _ 23 (by rfl) w5.heap.size 9 i0 (.string ⟨#[]⟩) 1 16 Tryz.underlying23 hi hz0 hz1 hz2 (by rfl) (by decide) vc acc.length (acc.map eS) (by rfl) (own_keep hown6 hbl).drew ⟨w6.heap.size, 0, none⟩ 1 1 [.string x] (by rfl) (by rfl) (World.news_of_block (cs := #[.string x]) (t := 9) (fr := (0, 0)) (heap_alloc_new w6 _)) (by simp [Value.oneCell']) (by decide) (by simp only [maxLen]; omega) (by omega) (by simp; omega) (w6.heap.size + 1) (by simp) ?_
                            intro g7 cap7 w7 hown7 hgrow hat hlt7
                            have hg7 := (hgrow.block _ (by have := heap_lt hg6; simp; omega) hnb).trans ((hbl.block _ (heap_lt hg6)).trans hg6)
                            have hc7 := cell_of_row w7 _ 0 _ _ _ hg7
                            have hf7 := frozen_row hg7 0
                            have hcx7 := (hgrow.cell_far ⟨b5, o5 + i, none⟩ (by simp; omega) hnb5).trans (cell_keep hbl hcx6)))
                        all_goals (go_wp2)
                        all_goals (
                          go_roundw
                          case rel =>
                            refine ⟨i + 1, .slice (some ⟨g7, 0, none⟩) (acc.length + 1) cap7, acc ++ [x], by go_num, by omega, ?_, ?_, Hacc.out, by simp; omega, ?_⟩
                            · rw [setCell_eq_setRow w7 _ 0 _ _ _ _ hg7]
                              exact setRow_heap w7 _ _ _ _ _ hg7
                            · refine ownsRow_setCell_below (a := ⟨w3.heap.size, 0, none⟩) ?_ h35 _
                              rw [List.length_append, List.map_append]
                              exact hown7
                            · exact ((hap6.alloc _).drew.grown hgrow (fun k e => (hown6.lt k e).1)).setCell _
                          case measure => simp [intOf] <;> omega)
                    · have hii : i = ws.length := by omega
                      subst hii
                      rw [List.drop_length] at hacc
                      have hacc2 : acc = keepW ws := by rw [← hacc]; simp [keepW]
                      have hRR := HRR.out
                      rw [← hacc2] at hRR
                      unfold parseEnd at hRR
                      clear HRR hacc hacc2
                      obtain ⟨Ac, cc, rfl, hcc1, hcc2, hrdc⟩ := own_rd hown
                      have hc0 := cell_of_row wr _ 0 _ _ _ hg12
                      have h2r := (hap.block _ (heap_lt h25) (by omega)).trans h25
                      have hbwr := hap.below hbw5 (by omega) (by omega)
                      have hrd3r := hrd35
                      by_cases hbad : acc.length < 1 ∨ 12 < acc.length
                      · rw [if_pos hbad] at hRR
                        have HRR := Lib.hid hRR
                        clear hRR
                        rcases hbad with hb1 | hb2
                        all_goals (
                          go_wp2_with (refine wpList_store_row rfl 26 _ _ rfl w.heap.size #[.slice none 0 0, .slice none 0 0, .string ⟨#[]⟩] rfl rfl 26 _ h2r rfl rfl (one3 _ _ _ _ _ _ _) ?_)
                          (try simp only [Exit.inBlock, Exit.then])
                          refine bodyPost_ret (results_cell_row3 rfl _ _ w.heap.size 26 _ (0, 0) _ rfl (setRow_heap _ _ _ _ _ _ h2r) Tryz.underlying26 rfl rfl) rfl ?_
                          exact told_bad (below_setRow hbwr (Nat.le_refl _) _) HRR.out rfl rfl)
                      · rw [if_neg hbad] at hRR
                        have HRR := Lib.hid hRR
                        have hb1 : 1 ≤ acc.length := by omega
                        have hb2 : acc.length ≤ 12 := by omega
                        clear hRR hbad
                        have hAc : ∀ b o, Ac = some ⟨b, o, none⟩ → b ≠ w.heap.size := fun b o e => by
                          subst e
                          have h3 := own_block hown
                          omega
                        have hrd3r : Rd wr 1 A3 l.length (l.map eI) := by
                          rcases Nat.eq_zero_or_pos l.length with h0 | h0
                          · obtain rfl : l = [] := List.eq_nil_of_length_eq_zero h0
                            exact Rd.nil
                          · exact hrd35.apart (fun b o e => by have := HA3.out b o e h0; omega) hap
                        have HAc := Lib.hid hAc
                        clear hAc
                        go_wp2_with (first
                          | (refine wpList_load_row rfl 26 _ rfl w3.heap.size rfl 26 _ (0, 0) _ hg12 Tryz.underlying26 rfl rfl ?_)
                          | (refine wpList_store_row rfl 26 _ _ rfl w.heap.size #[.slice Ac acc.length cc, .slice A3 l.length c3, .string mk] rfl rfl 26 _ h2r rfl rfl (one3 _ _ _ _ _ _ _) ?_))
                        (try simp only [Exit.inBlock, Exit.then])
                        refine bodyPost_ret (results_cell_row3 rfl _ _ w.heap.size 26 _ (0, 0) _ rfl (setRow_heap _ _ _ _ _ _ h2r) Tryz.underlying26 rfl rfl) rfl ?_
                        refine told_ok (below_setRow hbwr (Nat.le_refl _) _) HRR.out ?_
                        exact ⟨_, _, _, _, _, _, rfl, hrdc.apart HAc.out ((Apart.refl _ _).setRow _), by rw [mapZ]; exact hrd3r.apart HA3n.out ((Apart.refl _ _).setRow _), hcc1, hlc3, hcc2, hcm3, rfl, by simp⟩
              · rw [if_neg hx41] at hRR
                have hxb : ((x : Int) != 41) = true := by simp; omega
                clear HRR
                have HRR := Lib.hid hRR
                clear hRR hx41 hop
                go_wp2_with (refine wpList_store_row rfl 26 _ _ rfl w.heap.size #[.slice none 0 0, .slice none 0 0, .string ⟨#[]⟩] rfl rfl 26 _ h2 rfl rfl (one3 _ _ _ _ _ _ _) ?_)
                (try simp only [Exit.inBlock, Exit.then]); refine bodyPost_ret (results_cell_row3 rfl _ _ w.heap.size 26 _ (0, 0) _ rfl (setRow_heap _ _ _ _ _ _ h2) Tryz.underlying26 rfl rfl) rfl ?_
                exact told_bad (below_setRow hbw (Nat.le_refl _) _) HRR.out rfl rfl
            · rw [if_neg hy40] at hop
              have hyb : ((y : Int) != 40) = true := by simp; omega
              have Hop := Lib.hid hop
              clear hop hy40 hy
              go_wp2
              go_roundw
              case rel => exact ⟨j, by go_num, by omega, Hop.out, trivial⟩
              case measure => simp [intOf] <;> omega
end Go.Proofs.YtbjgfjmknnbahaaGreatDoor
