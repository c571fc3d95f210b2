/- Texts joined: RefCheck, RefLetters, TrimLay, Check, Awake, RefParseA, LoadOn, ClueReads. -/
import Derived.Test.YtbjgfjmknnbahaaGreatDoorR10
import Derived.Test.YtbjgfjmknnbahaaGreatDoorR8
import Derived.Test.YtbjgfjmknnbahaaGreatDoorR2
import Derived.Shelf.Strings.SlTrimAscii
import Derived.Test.YtbjgfjmknnbahaaGreatDoorProg
import Derived.Test.YtbjgfjmknnbahaaGreatDoorR9
/- Contract: rebusref16.Check. -/
set_option linter.unusedVariables false
set_option linter.unusedSimpArgs false
namespace Go.Proofs.YtbjgfjmknnbahaaGreatDoor
open Go.RowKit

theorem any_odd {ws : List ByteArray} {x : ByteArray} (h : x ∈ ws) (ho : oddT x = true) : wordsBad ws = true := by
  unfold wordsBad
  rw [List.any_eq_true.2 ⟨x, h, ho⟩]
  simp
theorem none_odd {ws : List ByteArray} (h1 : 1 ≤ ws.length) (h2 : ws.length ≤ 12) (h : ∀ (j : Nat) (x : ByteArray), ws[j]? = some x → oddT x = false) : wordsBad ws = false := by
  unfold wordsBad
  have : ws.any oddT = false := by
    rw [List.any_eq_false]
    intro x hx
    obtain ⟨j, hj, rfl⟩ := List.getElem_of_mem hx
    simp [h j _ (List.getElem?_eq_getElem hj)]
  rw [this, decide_eq_false (show ¬ (ws.length < 1 ∨ 12 < ws.length) by omega)]
  rfl

set_option maxHeartbeats 4000000 in
set_option maxRecDepth 100000 in
theorem RefCheck_any (v : Value) (ws : List ByteArray) (zs : List Int) (mk : ByteArray) (w : World) (hc : IsClue w v ws zs mk) (h1 : ws.length ≤ 4294967296) (h2 : zs.length ≤ 4294967296) (h3 : mk.size ≤ 4294967296) (h4 : ∀ x ∈ ws, x.size ≤ 4294967296) :
    Calls Tryz.prog 45 #[v] w fun e w' => e = .returned (.int .i64 (checkF ws zs mk : Nat)) ∧ Below w.heap.size w w' := by
  obtain ⟨A, n, c, B, m, d, rfl, ha, hb, k1, k2, k3, k4, hn, hm⟩ := hc.ex
  obtain ⟨R, hR⟩ : ∃ R, checkF ws zs mk = R := ⟨_, rfl⟩
  rw [hR]
  have HR := Lib.hid hR
  have H4 := Lib.hid h4
  clear hR h4 hc
  by_cases hbad : n < 1 ∨ 12 < n
  · have hR2 : R = 160 := by
      rw [← HR.out]
      unfold checkF wordsBad
      have : decide (ws.length < 1 ∨ 12 < ws.length) = true := decide_eq_true (by omega)
      rw [this]
      simp
    clear HR
    subst hR2
    rcases hbad with hb1 | hb2
    all_goals (
      go_enter Tryz.func45, Tryz.ntmps45
      go_wp2
      go_ret
      exact ⟨rfl, (Below.refl _ _).alloc (Nat.le_refl _) _⟩)
  have hn1 : 1 ≤ n := by omega
  have hn2 : n ≤ 12 := by omega
  clear hbad
  have hbl : ∀ o, Below w.heap.size w (w.alloc o) := fun o => (Below.refl _ _).alloc (Nat.le_refl _) _
  go_enter Tryz.func45, Tryz.ntmps45
  go_wp2
  have hg0 := heap_alloc_new w (.cells #[.slice A n c, .slice B m d, .string mk] 26)
  have hb0 := hbl (.cells #[.slice A n c, .slice B m d, .string mk] 26)
  go_loopw [3] (fun i wr => ∃ (k : Nat), i = .int .i64 k ∧ k ≤ n ∧ (∀ j x, j < k → ws[j]? = some x → oddT x = false) ∧ wr.heap[w.heap.size]? = some (.cells #[.slice A n c, .slice B m d, .string mk] 26 (0, 0)) ∧ Below w.heap.size w wr) (fun i _ => n - (intOf i).toNat)
  case atStart => exact ⟨0, rfl, Nat.zero_le _, fun j x h => absurd h (Nat.not_lt_zero _), hg0, hb0⟩
  case round =>
    obtain ⟨k, rfl, hk, hno, hg, hbw⟩ := hrel
    have c0 := cell_of_row wr _ 0 _ _ _ hg
    have c1 := cell_of_row wr _ 1 _ _ _ hg
    have c2 := cell_of_row wr _ 2 _ _ _ hg
    by_cases hlt : k < n
    · obtain ⟨b, o, x, rfl, hx, hcx⟩ := (ha.keep hbw).at1 hlt
      have hxz := H4.out x (List.mem_of_getElem? hx)
      unfold eS at hcx
      have HX := Lib.hid hx
      have HN := Lib.hid hno
      clear hx hno
      have HB := Lib.hid (fun W => RefBlanks_any x W hxz)
      cases hbk : anyBlank (runes x) with
      | true =>
        rw [hbk] at HB
        have hR2 : R = 160 := by
          rw [← HR.out]; unfold checkF
          rw [any_odd (List.mem_of_getElem? HX.out) (by simp [oddT, hbk])]; rfl
        clear HR hbk
        subst hR2
        go_wp2_with (go_at_call 79; refine (HB.out _).mono ?_; rintro e w2 ⟨rfl, hb2⟩)
        go_ret
        exact ⟨rfl, below_then hbw hbw.size hb2⟩
      | false =>
        rw [hbk] at HB
        cases hne : neW x with
        | false =>
          have hR2 : R = 160 := by
            rw [← HR.out]; unfold checkF
            rw [any_odd (List.mem_of_getElem? HX.out) (by simp [oddT, hne])]; rfl
          have hfo := Lib.hid (neW_false hne)
          clear HR hbk hne
          subst hR2
          go_wp2_with (first
            | (go_at_call 79; refine (HB.out _).mono ?_; rintro e w2 ⟨rfl, hb2⟩; have c02 := (hb2.cell (p := ⟨w.heap.size, 0, none⟩) (heap_lt hg)).trans c0; have hcx2 := cell_keep hb2 hcx)
            | (go_at_call 37; refine (RefFold_any x true _ hxz).mono ?_; rintro e w3 ⟨rfl, hb3⟩; rw [hfo.out]))
          go_ret
          exact ⟨rfl, below_then (below_then hbw hbw.size hb2) (by have := hbw.size; have := hb2.size; omega) hb3⟩
        | true =>
          have hfo := toList_false (neW_true hne)
          have hodd : oddT x = false := by simp [oddT, hbk, hne]
          have HO := Lib.hid hodd
          clear hbk hne hodd
          go_wp2_with (first
            | (go_at_call 79; refine (HB.out _).mono ?_; rintro e w2 ⟨rfl, hb2⟩; have c02 := (hb2.cell (p := ⟨w.heap.size, 0, none⟩) (heap_lt hg)).trans c0; have hcx2 := cell_keep hb2 hcx)
            | (go_at_call 37; refine (RefFold_any x true _ hxz).mono ?_; rintro e w3 ⟨rfl, hb3⟩))
          have hg2 := (hb2.block _ (heap_lt hg)).trans hg
          have hg3 := (hb3.block _ (heap_lt hg2)).trans hg2
          have hbw3 := below_then (below_then hbw hbw.size hb2) (by have := hbw.size; have := hb2.size; omega) hb3
          go_roundw
          case rel =>
            refine ⟨k + 1, by go_num, by omega, fun j y hj hy => ?_, hg3, hbw3⟩
            rcases Nat.lt_or_ge j k with h | h
            · exact HN.out j y h hy
            · obtain rfl : j = k := by omega
              rw [HX.out] at hy
              injection hy with hy
              subst hy
              exact HO.out
          case measure => simp [intOf] <;> omega
    · have hwb : wordsBad ws = false := none_odd (by omega) (by omega) (fun j x hx => hno j x (by have := (List.getElem?_eq_some_iff.1 hx).1; omega) hx)
      have hRs : R = if sizesBad zs mk then 161 else 0 := by
        rw [← HR.out]; unfold checkF
        rw [hwb]; rfl
      clear HR hno hwb
      by_cases hz0 : m < 1
      · have hR2 : R = 161 := by
          rw [hRs, sizesBad_len zs mk (.inl (List.eq_nil_of_length_eq_zero (by omega)))]; rfl
        clear hRs
        subst hR2
        go_wp2
        go_ret
        exact ⟨rfl, hbw⟩
      by_cases hz1 : mk.size + 1 = m
      · have hne : zs ≠ [] := fun e => by rw [e] at hm; simp at hm; omega
        have hZ := refZ_sizes zs mk hne (by omega)
        obtain ⟨Z, hZZ⟩ : ∃ Z, refZ mk zs 0 0 = Z := ⟨_, rfl⟩
        rw [hZZ] at hZ
        have hR2 : R = if Z then 0 else 161 := by
          rw [hRs, hZ]; cases sizesBad zs mk <;> rfl
        have HZ := Lib.hid hZZ
        have HR2 := Lib.hid hR2
        have hz2 : ((mk.size : Int) != (m : Int) - 1) = false := by simp; omega
        have hz3 : 1 ≤ m := by omega
        clear hRs hZ hZZ hR2 hne hz0
        go_wp2
        go_loopw [4, 5] (fun s i wr2 => ∃ (k : Nat) (a : Int), i = .int .i64 k ∧ s = .int .i64 a ∧ k ≤ m ∧ 0 ≤ a ∧ a ≤ 48 ∧ refZ mk (zs.drop k) k a = Z ∧ wr2 = wr) (fun _ i _ => m - (intOf i).toNat)
        case atStart => exact ⟨0, 0, rfl, rfl, Nat.zero_le _, by omega, by omega, HZ.out, rfl⟩
        case round =>
          obtain ⟨k2, a, rfl, rfl, hk2, ha0, ha1, hrz, rfl⟩ := hrel
          by_cases hlt2 : k2 < m
          · obtain ⟨b, o, z, rfl, hz, hcz⟩ := (hb.keep hbw).at1 hlt2
            rw [drop_cons hz] at hrz
            unfold refZ at hrz
            unfold eZ at hcz
            by_cases q1 : z < 1 ∨ 24 < z ∨ 24 < a
            · rw [if_pos q1] at hrz
              subst hrz
              have hR3 : R = 161 := HR2.out
              clear HR2 HZ
              subst hR3
              have q2 : z < 1 ∨ (1 ≤ z ∧ 24 < z) ∨ (1 ≤ z ∧ z ≤ 24 ∧ 24 < a) := by omega
              clear q1
              rcases q2 with q | ⟨q, q'⟩ | ⟨q, q', q''⟩
              all_goals (
                go_wp2
                go_ret
                exact ⟨rfl, hbw⟩)
            · rw [if_neg q1] at hrz
              have p1 : 1 ≤ z := by omega
              have p2 : z ≤ 24 := by omega
              have p3 : a ≤ 24 := by omega
              clear q1
              rcases Nat.eq_zero_or_pos k2 with h0 | h0
              · subst h0
                rw [if_neg (by omega)] at hrz
                have Hrz := Lib.hid hrz
                clear hrz hz
                simp only [Nat.add_zero] at hcz
                go_wp2
                go_roundw
                case rel => exact ⟨1, a + z, by go_num, rfl, by omega, by omega, by omega, Hrz.out, trivial⟩
                case measure => simp [intOf] <;> omega
              · have hbb := get_bang mk (k2 - 1)
                have hb9 := (mk.get! (k2 - 1)).toNat_lt
                obtain ⟨k3, rfl⟩ : ∃ k3, k2 = k3 + 1 := ⟨k2 - 1, by omega⟩
                simp only [Nat.add_sub_cancel] at hrz hbb hb9
                generalize (mk.get! k3).toNat = Bm at hrz hbb hb9
                by_cases q3 : Bm = 44 ∨ Bm = 45
                · rw [if_neg (by omega)] at hrz
                  have Hrz := Lib.hid hrz
                  clear hrz hz
                  rcases q3 with rfl | rfl
                  all_goals (
                    go_wp2
                    go_roundw
                    case rel => exact ⟨k3 + 2, a + z, by go_num, rfl, by omega, by omega, by omega, Hrz.out, trivial⟩
                    case measure => simp [intOf] <;> omega)
                · rw [if_pos (by omega)] at hrz
                  subst hrz
                  have hR3 : R = 161 := HR2.out
                  clear HR2 HZ
                  subst hR3
                  have e4 : ((Bm : Int) != 44) = true := by simp; omega
                  have e5 : ((Bm : Int) != 45) = true := by simp; omega
                  clear q3
                  go_wp2
                  go_ret
                  exact ⟨rfl, hbw⟩
          · rw [List.drop_of_length_le (by omega)] at hrz
            simp only [refZ] at hrz
            by_cases q : a ≤ 24
            · have hR3 : R = 0 := by rw [HR2.out, ← hrz, decide_eq_true q]; rfl
              clear HR2 HZ hrz
              subst hR3
              go_wp2
              go_ret
              exact ⟨rfl, hbw⟩
            · have hR3 : R = 161 := by rw [HR2.out, ← hrz, decide_eq_false q]; rfl
              clear HR2 HZ hrz
              subst hR3
              go_wp2
              go_ret
              exact ⟨rfl, hbw⟩
      · have hR2 : R = 161 := by
          rw [hRs, sizesBad_len zs mk (.inr (by omega))]; rfl
        have hz2 : ((mk.size : Int) != (m : Int) - 1) = true := by simp; omega
        clear hRs
        subst hR2
        go_wp2
        go_ret
        exact ⟨rfl, hbw⟩
end Go.Proofs.YtbjgfjmknnbahaaGreatDoor

/- Contract: rebusref16.Letters. -/
set_option linter.unusedVariables false
set_option linter.unusedSimpArgs false
namespace Go.Proofs.YtbjgfjmknnbahaaGreatDoor
open Go.RowKit

def lettersF (ws : List ByteArray) (zs : List Int) (mk : ByteArray) : Int := if checkF ws zs mk = 0 then sumZ zs else 0
theorem check_ok {ws : List ByteArray} {zs : List Int} {mk : ByteArray} (h : checkF ws zs mk = 0) : okZ zs = true ∧ mk.size + 1 = zs.length ∧ marksOk mk = true ∧ wordsBad ws = false := by
  unfold checkF at h
  split at h
  · cases h
  · rename_i hw
    split at h
    · cases h
    · rename_i hz
      simp only [sizesBad, Bool.not_eq_true, Bool.or_eq_false_iff, Bool.not_eq_false', beq_iff_eq] at hz hw
      exact ⟨hz.1.1, hz.1.2, hz.2, hw⟩

set_option maxHeartbeats 2000000 in
set_option maxRecDepth 100000 in
theorem RefLetters_any (v : Value) (ws : List ByteArray) (zs : List Int) (mk : ByteArray) (w : World) (hc : IsClue w v ws zs mk) (h1 : ws.length ≤ 4294967296) (h2 : zs.length ≤ 4294967296) (h3 : mk.size ≤ 4294967296) (h4 : ∀ x ∈ ws, x.size ≤ 4294967296) :
    Calls Tryz.prog 24 #[v] w fun e w' => e = .returned (.int .i64 (lettersF ws zs mk)) ∧ Below w.heap.size w w' := by
  have HC := Lib.hid (fun W (h : IsClue W v ws zs mk) => RefCheck_any v ws zs mk W h h1 h2 h3 h4)
  have hcl := hc
  obtain ⟨A, n, c, B, m, d, rfl, ha, hb, k1, k2, k3, k4, hn, hm⟩ := hc.ex
  have hg0 := heap_alloc_new w (.cells #[.slice A n c, .slice B m d, .string mk] 26)
  have hb0 : Below w.heap.size w (w.alloc (.cells #[.slice A n c, .slice B m d, .string mk] 26)) := (Below.refl _ _).alloc (Nat.le_refl _) _
  have hcl2 := hcl.keep hb0
  have c1 := cell_of_row _ _ 1 _ _ _ hg0
  clear h4 hc
  by_cases hz : checkF ws zs mk = 0
  · obtain ⟨hok, _, _, _⟩ := check_ok hz
    have hL : lettersF ws zs mk = sumZ zs := by unfold lettersF; rw [if_pos hz]
    rw [hL, ]
    rw [hz] at HC
    obtain ⟨S, hS⟩ : ∃ S, sumZ zs = S := ⟨_, rfl⟩
    rw [hS]
    have HS := Lib.hid hS
    have HK := Lib.hid hok
    clear hz hL hS hok
    go_enter Tryz.func24, Tryz.ntmps24
    go_wp2_with (first
      | (refine wpList_load_row rfl 26 _ rfl w.heap.size rfl 26 _ (0, 0) _ hg0 Tryz.underlying26 rfl rfl ?_)
      | (go_at_call 45; refine (HC.out _ hcl2).mono ?_; rintro e w2 ⟨rfl, hb2⟩))
    have hg2 := (hb2.block _ (heap_lt hg0)).trans hg0
    have c12 := cell_of_row w2 _ 1 _ _ _ hg2
    have hbw := below_then hb0 hb0.size hb2
    have hb2r := (hb.keep hb0).keep hb2
    go_loopw [3, 4] (fun s i wr => ∃ (k : Nat) (a : Int), i = .int .i64 k ∧ s = .int .i64 a ∧ k ≤ m ∧ 0 ≤ a ∧ a ≤ 24 ∧ okFrom (zs.drop k) a = true ∧ sumFrom (zs.drop k) a = S ∧ wr = w2) (fun _ i _ => m - (intOf i).toNat)
    case atStart => exact ⟨0, 0, rfl, rfl, Nat.zero_le _, by omega, by omega, HK.out, HS.out, rfl⟩
    case round =>
      obtain ⟨k, a, rfl, rfl, hk, ha0, ha1, hok, hsm, rfl⟩ := hrel
      by_cases hlt : k < m
      · obtain ⟨b, o, x, rfl, hx, hcx⟩ := hb2r.at1 hlt
        rw [drop_cons hx] at hok hsm
        simp only [okFrom, sumFrom] at hok hsm
        unfold eZ at hcx
        by_cases q1 : x < 1 ∨ 24 < x
        · rw [if_pos q1] at hok; cases hok
        rw [if_neg q1] at hok
        by_cases q2 : 24 < a + x
        · rw [if_pos q2] at hok; cases hok
        rw [if_neg q2] at hok
        have p1 : 1 ≤ x := by omega
        have p2 : a + x ≤ 24 := by omega
        have Hok := Lib.hid hok
        have Hsm := Lib.hid hsm
        clear hok hsm hx q1 q2
        go_wp2
        go_roundw
        case rel => exact ⟨k + 1, a + x, by go_num, rfl, by omega, by omega, by omega, Hok.out, Hsm.out, trivial⟩
        case measure => simp [intOf] <;> omega
      · rw [List.drop_of_length_le (by omega)] at hsm
        simp only [sumFrom] at hsm
        have Hsm := Lib.hid hsm
        clear hsm hok
        go_wp2
        go_ret
        exact ⟨by rw [← Hsm.out]; rfl, hbw⟩
  · have hL : lettersF ws zs mk = 0 := by unfold lettersF; rw [if_neg hz]
    rw [hL]
    generalize checkF ws zs mk = q at hz HC
    have hq : ((q : Int) != 0) = true := by simp; omega
    clear hL hz
    go_enter Tryz.func24, Tryz.ntmps24
    go_wp2_with (first
      | (refine wpList_load_row rfl 26 _ rfl w.heap.size rfl 26 _ (0, 0) _ hg0 Tryz.underlying26 rfl rfl ?_)
      | (go_at_call 45; refine (HC.out _ hcl2).mono ?_; rintro e w2 ⟨rfl, hb2⟩))
    go_ret
    exact ⟨rfl, below_then hb0 hb0.size hb2⟩
end Go.Proofs.YtbjgfjmknnbahaaGreatDoor

/- The lay of strings.Trim over the program. -/
set_option linter.unusedVariables false
namespace Go.Proofs
open Go.Shelf
def Tryz.lays160_ren : Go.Shelf.Ren := ⟨fun | 160 => 43 | 232 => 73 | 231 => 72 | 227 => 74 | 234 => 76 | 233 => 75 | 236 => 78 | 235 => 77 | 228 => 92 | 271 => 88 | 151 => 98 | 197 => 62 | 120 => 103 | 152 => 90 | 260 => 89 | 137 => 104 | 119 => 105 | 224 => 106 | 225 => 107 | 217 => 118 | 266 => 127 | n => n, fun | 9 => 9 | 4 => 4 | 3 => 3 | 5 => 5 | 117 => 100 | 116 => 99 | 0 => 0 | 124 => 103 | 21 => 21 | 105 => 91 | 46 => 126 | 119 => 125 | 139 => 129 | 138 => 128 | n => n, fun | 3 => 1 | 4 => 2 | n => n⟩
theorem Tryz.lays160 : Go.Proofs.Lays.n160 Tryz.prog Tryz.lays160_ren := {
  mixed := by kernel_rfl
  f119 := Tryz.func105.trans (congrArg some (by kernel_rfl))
  f120 := Tryz.func103.trans (congrArg some (by kernel_rfl))
  f137 := Tryz.func104.trans (congrArg some (by kernel_rfl))
  f151 := Tryz.func98.trans (congrArg some (by kernel_rfl))
  f152 := Tryz.func90.trans (congrArg some (by kernel_rfl))
  f160 := Tryz.func43.trans (congrArg some (by kernel_rfl))
  f197 := Tryz.func62.trans (congrArg some (by kernel_rfl))
  f217 := Tryz.func118.trans (congrArg some (by kernel_rfl))
  f224 := Tryz.func106.trans (congrArg some (by kernel_rfl))
  f225 := Tryz.func107.trans (congrArg some (by kernel_rfl))
  f227 := Tryz.func74.trans (congrArg some (by kernel_rfl))
  f228 := Tryz.func92.trans (congrArg some (by kernel_rfl))
  f231 := Tryz.func72.trans (congrArg some (by kernel_rfl))
  f232 := Tryz.func73.trans (congrArg some (by kernel_rfl))
  f233 := Tryz.func75.trans (congrArg some (by kernel_rfl))
  f234 := Tryz.func76.trans (congrArg some (by kernel_rfl))
  f235 := Tryz.func77.trans (congrArg some (by kernel_rfl))
  f236 := Tryz.func78.trans (congrArg some (by kernel_rfl))
  f260 := Tryz.func89.trans (congrArg some (by kernel_rfl))
  f266 := Tryz.func127.trans (congrArg some (by kernel_rfl))
  f271 := Tryz.func88.trans (congrArg some (by kernel_rfl))
  t0 := Tryz.underlying0
  a0 := Tryz.isAgg0
  z0 := Tryz.sizeOf0
  v0 := Tryz.zeroValue0
  t3 := Tryz.underlying3
  a3 := Tryz.isAgg3
  z3 := Tryz.sizeOf3
  v3 := Tryz.zeroValue3
  t4 := Tryz.underlying4
  a4 := Tryz.isAgg4
  z4 := Tryz.sizeOf4
  v4 := Tryz.zeroValue4
  t5 := Tryz.underlying5
  a5 := Tryz.isAgg5
  z5 := Tryz.sizeOf5
  v5 := Tryz.zeroValue5
  t9 := Tryz.underlying9
  a9 := Tryz.isAgg9
  z9 := Tryz.sizeOf9
  v9 := Tryz.zeroValue9
  t21 := Tryz.underlying21
  a21 := Tryz.isAgg21
  z21 := Tryz.sizeOf21
  v21 := Tryz.zeroValue21
  t46 := Tryz.underlying126
  a46 := Tryz.isAgg126
  z46 := Tryz.sizeOf126
  v46 := Tryz.zeroValue126
  t105 := Tryz.underlying91
  a105 := Tryz.isAgg91
  z105 := Tryz.sizeOf91
  v105 := Tryz.zeroValue91
  t116 := Tryz.underlying99
  a116 := Tryz.isAgg99
  z116 := Tryz.sizeOf99
  t117 := Tryz.underlying100
  a117 := Tryz.isAgg100
  z117 := Tryz.sizeOf100
  v117 := Tryz.zeroValue100
  t119 := Tryz.underlying125
  a119 := Tryz.isAgg125
  z119 := Tryz.sizeOf125
  t124 := Tryz.underlying103
  a124 := Tryz.isAgg103
  z124 := Tryz.sizeOf103
  v124 := Tryz.zeroValue103
  t138 := Tryz.underlying128
  a138 := Tryz.isAgg128
  z138 := Tryz.sizeOf128
  v138 := Tryz.zeroValue128
  t139 := Tryz.underlying129
  a139 := Tryz.isAgg129
  z139 := Tryz.sizeOf129
  v139 := Tryz.zeroValue129
  g3 := by kernel_rfl
  g4 := by kernel_rfl }
open Go.RowKit Go.Lib in
theorem Tryz.strings_Trim_laid (s cutset : ByteArray) (w : Go.World) (hs : s.size ≤ 9223372036854775807) (hcs : cutset.size < 4294967281) (hascii : ∀ (j : Nat) b, cutset.data.toList[j]? = some b → b.toNat < 128) :
    Calls Tryz.prog 43 #[.string s, .string cutset] w fun e w' => e = .returned (.string ⟨(Go.Lib.trimS s.data.toList cutset.data.toList).toArray⟩) ∧ Below w.heap.size w w' := Any.strings_Trim_laid Tryz.lays160 (by kernel_rfl) s cutset w hs hcs hascii
end Go.Proofs

/- Contracts: strings.Trim of marks, clue.Check, clue.Letters. -/
set_option linter.unusedVariables false
set_option linter.unusedSimpArgs false
namespace Go.Proofs.YtbjgfjmknnbahaaGreatDoor
open Go.RowKit

theorem dropWhile_all {p : UInt8 → Bool} : ∀ l : List UInt8, (l.dropWhile p = [] ↔ l.all p = true)
  | [] => by simp
  | x :: l => by
    rw [List.dropWhile_cons, List.all_cons]
    cases h : p x with
    | true => simpa using dropWhile_all l
    | false => simp
theorem contains_mark (b : UInt8) : [44, 45].contains b = (b == 44 || b == 45) := by
  simp only [List.contains, List.elem]
  cases (b == 44) <;> cases (b == 45) <;> rfl
theorem trim_marks (mk : ByteArray) : (Lib.trimS mk.data.toList [44, 45] = [] ↔ marksOk mk = true) := by
  unfold marksOk
  have hf : (fun b : UInt8 => b == 44 || b == 45) = ([44, 45].contains ·) := by funext b; rw [contains_mark]
  rw [hf]
  unfold Lib.trimS Lib.trimLeftS Lib.trimRightS
  rw [dropWhile_all]
  constructor
  · intro h
    by_cases hc : (mk.data.toList.reverse.dropWhile ([44, 45].contains ·)) = []
    · have := (dropWhile_all _).1 hc
      simpa [List.all_reverse] using this
    · exfalso
      have hh := List.head_dropWhile_not ([44, 45].contains ·) hc
      rw [List.all_reverse, List.all_eq_true] at h
      have := h _ (List.head_mem hc)
      rw [this] at hh
      exact absurd hh (by decide)
  · intro h
    have : mk.data.toList.reverse.dropWhile ([44, 45].contains ·) = [] := (dropWhile_all _).2 (by simpa [List.all_reverse] using h)
    rw [this]
    rfl
theorem Trim_marks (mk : ByteArray) (w : World) (hs : mk.size ≤ 4294967296) :
    Calls Tryz.prog 43 #[.string mk, .string ⟨#[44, 45]⟩] w fun e w' => (∃ t : ByteArray, e = .returned (.string t) ∧ (t.toList == []) = marksOk mk) ∧ Below w.heap.size w w' := by
  refine (Tryz.strings_Trim_laid mk ⟨#[44, 45]⟩ w (by omega) (by decide) ?_).mono ?_
  · intro j b hb
    rcases j with _ | _ | j
    · simp at hb; subst hb; decide
    · simp at hb; subst hb; decide
    · simp at hb
  · rintro e w' ⟨rfl, hb⟩
    refine ⟨⟨_, rfl, ?_⟩, hb⟩
    rw [Lib.toList_data, Bool.eq_iff_iff, beq_iff_eq]
    exact trim_marks mk
theorem oddT_oddW : oddT = oddW := by
  funext x
  unfold oddT oddW emptyW
  rfl
theorem wordsBad_cases {ws : List ByteArray} (h1 : 1 ≤ ws.length) (h2 : ws.length ≤ 12) : wordsBad ws = ws.any oddW := by
  unfold wordsBad
  rw [decide_eq_false (show ¬ (ws.length < 1 ∨ 12 < ws.length) by omega), oddT_oddW]
  rfl

set_option maxHeartbeats 4000000 in
set_option maxRecDepth 100000 in
theorem Check_any (v : Value) (ws : List ByteArray) (zs : List Int) (mk : ByteArray) (w : World) (hc : IsClue w v ws zs mk) (h1 : ws.length ≤ 4294967296) (h2 : zs.length ≤ 4294967296) (h3 : mk.size ≤ 4294967296) (h4 : ∀ x ∈ ws, x.size ≤ 4294967296) :
    Calls Tryz.prog 11 #[v] w fun e w' => e = .returned (.int .i64 (checkF ws zs mk : Nat)) ∧ Below w.heap.size w w' := by
  obtain ⟨A, n, c, B, m, d, rfl, ha, hb, k1, k2, k3, k4, hn, hm⟩ := hc.ex
  obtain ⟨R, hR⟩ : ∃ R, checkF ws zs mk = R := ⟨_, rfl⟩
  rw [hR]
  have hg0 := heap_alloc_new w (.cells #[.slice A n c, .slice B m d, .string mk] 26)
  have hb0 : Below w.heap.size w (w.alloc (.cells #[.slice A n c, .slice B m d, .string mk] 26)) := (Below.refl _ _).alloc (Nat.le_refl _) _
  by_cases hbad : n < 1 ∨ 12 < n
  · have hR2 : R = 160 := by
      rw [← hR]
      unfold checkF wordsBad
      have : decide (ws.length < 1 ∨ 12 < ws.length) = true := decide_eq_true (by omega)
      rw [this]
      simp
    clear hR h4 hc hg0
    subst hR2
    rcases hbad with hb1 | hb2
    all_goals (
      go_enter Tryz.func11, Tryz.ntmps11
      go_wp2
      go_ret
      exact ⟨rfl, hb0⟩)
  have hn1 : 1 ≤ n := by omega
  have hn2 : n ≤ 12 := by omega
  have hwc := wordsBad_cases (ws := ws) (by omega) (by omega)
  clear hbad
  have HO := Lib.hid (fun W (h : Rd W 1 A n (ws.map eS)) => ContainsOdd_any A n c ws W h (by omega) h4)
  have ha0 := ha.keep hb0
  cases ho : ws.any oddW with
  | true =>
    have hR2 : R = 160 := by
      rw [← hR]; unfold checkF
      rw [hwc, ho]; rfl
    rw [ho] at HO
    clear hR h4 hc hwc ho
    subst hR2
    go_enter Tryz.func11, Tryz.ntmps11
    go_wp2_with (go_at_call 41; refine (HO.out _ ha0).mono ?_; rintro e w2 ⟨rfl, hb2⟩)
    go_ret
    exact ⟨rfl, below_then hb0 hb0.size hb2⟩
  | false =>
    rw [ho] at HO
    have hR2 : R = if sizesBad zs mk then 161 else 0 := by
      rw [← hR]; unfold checkF
      rw [hwc, ho]; rfl
    clear hR h4 hc hwc ho
    have HS := Lib.hid (fun W (h : Rd W 1 B m (zs.map eZ)) => Sum_any B m d zs W h (by omega))
    cases hok : okZ zs with
    | false =>
      have hR3 : R = 161 := by
        rw [hR2]; unfold sizesBad; rw [hok]; rfl
      rw [hok] at HS
      clear hR2 hok
      subst hR3
      go_enter Tryz.func11, Tryz.ntmps11
      go_wp2_with (first
        | (go_at_call 41; refine (HO.out _ ha0).mono ?_; rintro e w2 ⟨rfl, hb2⟩; have hg2 := (hb2.block _ (heap_lt hg0)).trans hg0; have c12 := cell_of_row w2 _ 1 _ _ _ hg2; have c22 := cell_of_row w2 _ 2 _ _ _ hg2; have hbr := (hb.keep hb0).keep hb2)
        | (go_at_call 42; refine (HS.out _ hbr).mono ?_; rintro e w3 ⟨⟨v, rfl, hv⟩, rfl⟩; clear hv))
      go_ret
      exact ⟨rfl, below_then hb0 hb0.size hb2⟩
    | true =>
      rw [hok] at HS
      by_cases hz1 : mk.size + 1 = m
      · have hR3 : R = if marksOk mk then 0 else 161 := by
          rw [hR2]; unfold sizesBad
          rw [hok, show (mk.size + 1 == zs.length) = true by simp; omega]
          cases marksOk mk <;> rfl
        have hz2 : ((mk.size : Int) != (m : Int) - 1) = false := by simp; omega
        have HT := Lib.hid (fun W => Trim_marks mk W h3)
        cases hmk : marksOk mk with
        | true =>
          rw [hmk] at HT hR3
          have hR4 : R = 0 := hR3
          clear hR2 hR3 hmk hok
          subst hR4
          go_enter Tryz.func11, Tryz.ntmps11
          go_wp2_with (first
            | (go_at_call 41; refine (HO.out _ ha0).mono ?_; rintro e w2 ⟨rfl, hb2⟩; have hg2 := (hb2.block _ (heap_lt hg0)).trans hg0; have c12 := cell_of_row w2 _ 1 _ _ _ hg2; have c22 := cell_of_row w2 _ 2 _ _ _ hg2; have hbr := (hb.keep hb0).keep hb2)
            | (go_at_call 42; refine (HS.out _ hbr).mono ?_; rintro e w3 ⟨⟨v, rfl, hv⟩, rfl⟩; clear hv)
            | (go_at_call 43; refine (HT.out _).mono ?_; rintro e w4 ⟨⟨t, rfl, ht⟩, hb4⟩))
          go_ret
          exact ⟨rfl, below_then (below_then hb0 hb0.size hb2) (by have := hb0.size; have := hb2.size; omega) hb4⟩
        | false =>
          rw [hmk] at HT hR3
          have hR4 : R = 161 := hR3
          clear hR2 hR3 hmk hok
          subst hR4
          go_enter Tryz.func11, Tryz.ntmps11
          go_wp2_with (first
            | (go_at_call 41; refine (HO.out _ ha0).mono ?_; rintro e w2 ⟨rfl, hb2⟩; have hg2 := (hb2.block _ (heap_lt hg0)).trans hg0; have c12 := cell_of_row w2 _ 1 _ _ _ hg2; have c22 := cell_of_row w2 _ 2 _ _ _ hg2; have hbr := (hb.keep hb0).keep hb2)
            | (go_at_call 42; refine (HS.out _ hbr).mono ?_; rintro e w3 ⟨⟨v, rfl, hv⟩, rfl⟩; clear hv)
            | (go_at_call 43; refine (HT.out _).mono ?_; rintro e w4 ⟨⟨t, rfl, ht⟩, hb4⟩))
          go_ret
          exact ⟨rfl, below_then (below_then hb0 hb0.size hb2) (by have := hb0.size; have := hb2.size; omega) hb4⟩
      · have hR3 : R = 161 := by
          rw [hR2, sizesBad_len zs mk (.inr (by omega))]; rfl
        have hz2 : ((mk.size : Int) != (m : Int) - 1) = true := by simp; omega
        clear hR2 hok
        subst hR3
        go_enter Tryz.func11, Tryz.ntmps11
        go_wp2_with (first
          | (go_at_call 41; refine (HO.out _ ha0).mono ?_; rintro e w2 ⟨rfl, hb2⟩; have hg2 := (hb2.block _ (heap_lt hg0)).trans hg0; have c12 := cell_of_row w2 _ 1 _ _ _ hg2; have c22 := cell_of_row w2 _ 2 _ _ _ hg2; have hbr := (hb.keep hb0).keep hb2)
          | (go_at_call 42; refine (HS.out _ hbr).mono ?_; rintro e w3 ⟨⟨v, rfl, hv⟩, rfl⟩; clear hv))
        go_ret
        exact ⟨rfl, below_then hb0 hb0.size hb2⟩

set_option maxHeartbeats 2000000 in
set_option maxRecDepth 100000 in
theorem Letters_any (v : Value) (ws : List ByteArray) (zs : List Int) (mk : ByteArray) (w : World) (hc : IsClue w v ws zs mk) (h1 : ws.length ≤ 4294967296) (h2 : zs.length ≤ 4294967296) (h3 : mk.size ≤ 4294967296) (h4 : ∀ x ∈ ws, x.size ≤ 4294967296) :
    Calls Tryz.prog 23 #[v] w fun e w' => e = .returned (.int .i64 (lettersF ws zs mk)) ∧ Below w.heap.size w w' := by
  have HC := Lib.hid (fun W (h : IsClue W v ws zs mk) => Check_any v ws zs mk W h h1 h2 h3 h4)
  have hcl := hc
  obtain ⟨A, n, c, B, m, d, rfl, ha, hb, k1, k2, k3, k4, hn, hm⟩ := hc.ex
  have hg0 := heap_alloc_new w (.cells #[.slice A n c, .slice B m d, .string mk] 26)
  have hb0 : Below w.heap.size w (w.alloc (.cells #[.slice A n c, .slice B m d, .string mk] 26)) := (Below.refl _ _).alloc (Nat.le_refl _) _
  have hcl2 := hcl.keep hb0
  clear h4 hc
  by_cases hz : checkF ws zs mk = 0
  · obtain ⟨hok, _, _, _⟩ := check_ok hz
    have hL : lettersF ws zs mk = sumZ zs := by unfold lettersF; rw [if_pos hz]
    have HS := Lib.hid (fun W (h : Rd W 1 B m (zs.map eZ)) => Sum_any B m d zs W h (by omega))
    rw [hL]
    rw [hz] at HC
    rw [hok] at HS
    generalize sumZ zs = S at HS ⊢
    clear hz hL hok
    go_enter Tryz.func23, Tryz.ntmps23
    go_wp2_with (first
      | (refine wpList_load_row rfl 26 _ rfl w.heap.size rfl 26 _ (0, 0) _ hg0 Tryz.underlying26 rfl rfl ?_)
      | (go_at_call 11; refine (HC.out _ hcl2).mono ?_; rintro e w2 ⟨rfl, hb2⟩; have hg2 := (hb2.block _ (heap_lt hg0)).trans hg0; have c12 := cell_of_row w2 _ 1 _ _ _ hg2; have hbr := (hb.keep hb0).keep hb2)
      | (go_at_call 42; refine (HS.out _ hbr).mono ?_; rintro e w3 ⟨⟨v, rfl, hv⟩, rfl⟩; have hv := hv (by trivial); subst hv))
    go_ret
    exact ⟨rfl, below_then hb0 hb0.size hb2⟩
  · have hL : lettersF ws zs mk = 0 := by unfold lettersF; rw [if_neg hz]
    rw [hL]
    generalize checkF ws zs mk = q at hz HC
    have hq : ((q : Int) != 0) = true := by simp; omega
    clear hL hz
    go_enter Tryz.func23, Tryz.ntmps23
    go_wp2_with (first
      | (refine wpList_load_row rfl 26 _ rfl w.heap.size rfl 26 _ (0, 0) _ hg0 Tryz.underlying26 rfl rfl ?_)
      | (go_at_call 11; refine (HC.out _ hcl2).mono ?_; rintro e w2 ⟨rfl, hb2⟩))
    go_ret
    exact ⟨rfl, below_then hb0 hb0.size hb2⟩
end Go.Proofs.YtbjgfjmknnbahaaGreatDoor

/- Contract: rebuslaw16.awake. -/
set_option linter.unusedVariables false
set_option linter.unusedSimpArgs false
namespace Go.Proofs.YtbjgfjmknnbahaaGreatDoor
open Go.RowKit

def awakeB : ByteArray := ⟨#[66, 105, 114, 100, 32, 32, 102, 108, 121, 105, 110, 103, 32, 40, 53, 44, 51, 45, 52, 41, 32]⟩
theorem awake_parse : parseF awakeB = ([⟨#[66, 105, 114, 100]⟩, ⟨#[102, 108, 121, 105, 110, 103]⟩], [5, 3, 4], ⟨#[44, 45]⟩, 0, 0) := by kernel_rfl
/-- What a text read tells, in the open. -/
theorem PTold.open {w w' : World} {ws : List ByteArray} {l : List Nat} {mk : ByteArray} {a x : Nat} {e : Ending} (h : PTold w w' (ws, l, mk, a, x) e) :
    ∃ A c B d, e = .returned (.tuple #[.agg #[.slice A ws.length c, .slice B l.length d, .string mk], .int .i64 a, .int .i64 x]) ∧ IsClue w' (.agg #[.slice A ws.length c, .slice B l.length d, .string mk]) ws (l.map Int.ofNat) mk ∧ Below w.heap.size w w' := by
  obtain ⟨hb, v, he, hc⟩ := h
  have hc2 := hc
  obtain ⟨A, n, c, B, m, d, rfl, h1, h2, h3, h4, h5, h6, h7, h8⟩ := hc.ex
  simp only [List.length_map] at h8
  subst h7 h8
  exact ⟨A, c, B, d, he, hc2, hb⟩
theorem letters_sum {ws : List ByteArray} {zs : List Int} {mk : ByteArray} (h : checkF ws zs mk = 0) : lettersF ws zs mk = sumZ zs := by unfold lettersF; rw [if_pos h]

set_option maxHeartbeats 4000000 in
set_option maxRecDepth 100000 in
theorem Awake_any (w : World) (hv : Vars w) : Calls Tryz.prog 7 #[] w fun e w' => e = .returned (.bool true) ∧ Below w.heap.size w w' := by
  have hpr := parse_right awake_parse
  have hlt := letters_sum hpr
  rw [show sumZ ([5, 3, 4].map Int.ofNat) = 12 from rfl] at hlt
  have HP := Lib.hid (fun W (h : Vars W) => (Parse_any awakeB W h).mono (fun e w' k => (PTold.open (awake_parse ▸ k))))
  have HL := Lib.hid (fun v W hc => (hlt ▸ Letters_any v [⟨#[66, 105, 114, 100]⟩, ⟨#[102, 108, 121, 105, 110, 103]⟩] ([5, 3, 4].map Int.ofNat) ⟨#[44, 45]⟩ W hc (by decide) (by decide) (by decide) (by decide) : Calls Tryz.prog 23 #[v] W fun e w' => e = .returned (.int .i64 12) ∧ Below W.heap.size W w'))
  clear hpr hlt
  go_enter Tryz.func7, Tryz.ntmps7
  go_wp2_with (first
    | (go_at_call 8; refine (HP.out _ hv).mono ?_; rintro e w1 ⟨A, c, B, d, rfl, hcl, hb1⟩)
    | (go_at_call 23; refine (HL.out _ _ (hcl.keep ((Below.refl _ _).alloc (Nat.le_refl _) _))).mono ?_; rintro e w2 ⟨rfl, hb2⟩))
  go_ret
  exact ⟨rfl, below_then (hb1.alloc hb1.size _) (by have := hb1.size; simp; omega) hb2⟩
end Go.Proofs.YtbjgfjmknnbahaaGreatDoor

/- Contract: rebusref16.Parse, of every text. -/
set_option linter.unusedVariables false
set_option linter.unusedSimpArgs false
namespace Go.Proofs.YtbjgfjmknnbahaaGreatDoor
open Go.RowKit

theorem seqFrom_ge (s : ByteArray) : ∀ f pos, ∀ x ∈ seqFrom s f pos, pos ≤ x.1 ∧ x.1 < s.size
  | 0, _, x, h => by simp [seqFrom] at h
  | f + 1, pos, x, h => by
    unfold seqFrom at h
    split at h
    · rename_i hp
      rcases List.mem_cons.1 h with rfl | h
      · exact ⟨Nat.le_refl _, hp⟩
      · have := seqFrom_ge s f _ x h
        have := width_pos s pos hp
        omega
    · simp at h
theorem seqFrom_mono (s : ByteArray) : ∀ f pos, (seqFrom s f pos).Pairwise (fun a b => a.1 < b.1)
  | 0, _ => by simp [seqFrom]
  | f + 1, pos => by
    unfold seqFrom
    split
    · rename_i hp
      refine List.pairwise_cons.2 ⟨fun x hx => ?_, seqFrom_mono s f _⟩
      have := (seqFrom_ge s f _ x hx).1
      have := width_pos s pos hp
      show pos < x.1
      omega
    · exact List.Pairwise.nil
theorem places_mono (s : ByteArray) (i j x y : Nat) (hij : i < j) (hx : ((seqs s).map (·.1))[i]? = some x) (hy : ((seqs s).map (·.1))[j]? = some y) : x < y := by
  rw [List.getElem?_map] at hx hy
  obtain ⟨a, ha, rfl⟩ := Option.map_eq_some_iff.1 hx
  obtain ⟨b, hb, rfl⟩ := Option.map_eq_some_iff.1 hy
  obtain ⟨hi, rfl⟩ := List.getElem?_eq_some_iff.1 ha
  obtain ⟨hj, rfl⟩ := List.getElem?_eq_some_iff.1 hb
  exact List.pairwise_iff_getElem.1 (seqFrom_mono s s.size 0) i j hi hj hij
theorem places_lt (s : ByteArray) (i x : Nat) (hx : ((seqs s).map (·.1))[i]? = some x) : x < s.size := by
  rw [List.getElem?_map] at hx
  obtain ⟨a, ha, rfl⟩ := Option.map_eq_some_iff.1 hx
  exact (seqFrom_ge s s.size 0 a (List.mem_of_getElem? ha)).2
/-- rebusref16.Parse. -/
theorem RefParse_any (s : ByteArray) (w : World) :
    Calls Tryz.prog 9 #[.string s] w fun e w' => PTold w w' (parseF s) e := by
  by_cases h : 65536 < s.size
  · refine RefParse_big s w h _ ?_
    unfold parseF parseL
    rw [if_pos h]
  · have hs : s.size ≤ 4294967296 := by omega
    have hl : (runes s).length = (seqs s).length := by simp [runes]
    have hR : ∀ W, Calls Tryz.prog 32 #[.string s] W fun e w' => Made W w' 21 1 (seqs s).length ((runes s).map eR) e := by
      rw [← hl]; exact fun W => RefRunes_any s W hs
    have hP : ∀ W, Calls Tryz.prog 33 #[.string s] W fun e w' => Made W w' 3 1 (seqs s).length (((seqs s).map (·.1)).map eI) e := fun W => RefPlaces_any s W hs
    have hm := places_mono s
    have ht := places_lt s
    have hle := seqs_length s
    have hrl := runes_le s
    have hpl : ((seqs s).map (·.1)).length = (seqs s).length := by simp
    unfold parseF
    generalize runes s = L at *
    generalize (seqs s).map (·.1) = Ps at *
    generalize (seqs s).length = n at *
    exact RefParse_L s L Ps n w (by omega) hl hpl hle hrl ht hm hR hP
end Go.Proofs.YtbjgfjmknnbahaaGreatDoor

/- Words for the walk: a row read under a guard; what lies stays. -/
set_option linter.unusedVariables false
set_option linter.unusedSimpArgs false
namespace Go.Proofs.YtbjgfjmknnbahaaGreatDoor
open Go.RowKit

/-- A whole row read, under a guard that is met. -/
theorem wpList_load_row_on {P : Program} {w : World} {ops : Array Oper} {rest : List Oper} {o : Oper} {a : Act} {Q : Exit → Act → World → Prop} (hwd : Region.wanted o (yielded ops a.tmps) = true) (ty : TypeId) (x : Operand) (ho : o.op = .load ty x)
    (g : Nat) (hx : a.eval x = .pointer (some ⟨g, 0, none⟩)) (t : TypeId) (cs : Array Value) (fr : Nat × Nat) (d : TypeDesc) (hg : w.heap[g]? = some (.cells cs t fr))
    (hu : P.underlying ty = some d) (hd : (match d with | .struct _ | .array _ _ => true | _ => false) = true) (hi : (P.info? ty).map (·.size) = some cs.size)
    (h : wpList P ops Q rest (a.put o.dst (.agg cs)) w) : wpList P ops Q (o :: rest) a w :=
  wpList_step fun K hK => by rw [if_pos hwd]; exact wp_load_row ty x ho g hx t cs fr d hg hu hd hi (hK _ _ h)
theorem heap_alloc_keep {w : World} {k : Nat} {o : Obj} (h : w.heap[k]? = some o) (o' : Obj) : (w.alloc o').heap[k]? = some o := (((Below.refl w.heap.size w).alloc (Nat.le_refl _) o').block k (heap_lt h)).trans h
end Go.Proofs.YtbjgfjmknnbahaaGreatDoor

/- Contract: rebuslaw16.ClueReads: true for every text. -/
set_option linter.unusedVariables false
set_option linter.unusedSimpArgs false
namespace Go.Proofs.YtbjgfjmknnbahaaGreatDoor
open Go.RowKit

theorem sameC_refl (ws : List ByteArray) (zs : List Int) (mk : ByteArray) : sameC ws ws zs zs mk mk = true := by simp [sameC]
set_option maxHeartbeats 4000000 in
set_option maxRecDepth 100000 in
theorem ClueReads_any (s : ByteArray) (w : World) (hv : Vars w) : Calls Tryz.prog 3 #[.string s] w fun e w' => e = .returned (.bool true) ∧ Below w.heap.size w w' := by
  have HA := Lib.hid (fun W (h : Vars W) => Awake_any W h)
  obtain ⟨P, hP⟩ : ∃ P, parseF s = P := ⟨_, rfl⟩
  obtain ⟨ws, l, mk, a, x⟩ := P
  obtain ⟨s1, s2, s3, s4⟩ := parse_small hP
  have HP := Lib.hid (fun W (h : Vars W) => (Parse_any s W h).mono (fun e w' k => (PTold.open (hP ▸ k))))
  have HR := Lib.hid (fun W => (RefParse_any s W).mono (fun e w' k => (PTold.open (hP ▸ k))))
  have HS := Lib.hid (fun v u W (ha : IsClue W v ws (l.map Int.ofNat) mk) (hb : IsClue W u ws (l.map Int.ofNat) mk) => (sameC_refl ws (l.map Int.ofNat) mk ▸ RefSame_any v u ws ws (l.map Int.ofNat) (l.map Int.ofNat) mk mk W ha hb (by omega) (by omega) (by simp; omega) (by simp; omega) : Calls Tryz.prog 10 #[v, u] W fun e w' => e = .returned (.bool true) ∧ Below W.heap.size W w'))
  by_cases hx : x = 0
  · subst hx
    have hr := parse_right hP
    have hs : s.size ≤ 4294967296 := parse_fits hP
    have HC := Lib.hid (fun v W hc => (hr ▸ Check_any v ws (l.map Int.ofNat) mk W hc (by omega) (by simp; omega) (by omega) (fun y hy => Nat.le_trans (s4 y hy) hs) : Calls Tryz.prog 11 #[v] W fun e w' => e = .returned (.int .i64 (0 : Nat)) ∧ Below W.heap.size W w'))
    clear hP s4 hr
    go_enter Tryz.func3, Tryz.ntmps3
    go_wp2_with (first
      | (go_at_call 7; refine (HA.out _ hv).mono ?_; rintro e w1 ⟨rfl, hb1⟩; have hv1 := hv.keep hb1)
      | (go_at_call 8; refine (HP.out _ hv1).mono ?_; rintro e w2 ⟨A, c, B, d, rfl, hcl, hb2⟩; have hbw2 := below_then hb1 hb1.size hb2; have g2 := heap_alloc_new w2 (.cells #[.slice A ws.length c, .slice B l.length d, .string mk] 26))
      | (go_at_call 9; refine (HR.out _).mono ?_; rintro e w3 ⟨A', c', B', d', rfl, hcl', hb3⟩; have g3 := heap_alloc_keep ((hb3.block _ (heap_lt g2)).trans g2) (.cells #[.slice A' ws.length c', .slice B' l.length d', .string mk] 26); have g4 := heap_alloc_new w3 (.cells #[.slice A' ws.length c', .slice B' l.length d', .string mk] 26); have hbn : Below w3.heap.size w3 (w3.alloc (.cells #[.slice A' ws.length c', .slice B' l.length d', .string mk] 26)) := (Below.refl _ _).alloc (Nat.le_refl _) _; have hclm := ((hcl.keep ((Below.refl _ _).alloc (Nat.le_refl _) _)).keep hb3).keep hbn; have hclm' := hcl'.keep hbn; have hbw3 := below_then (below_then (hbw2.alloc hbw2.size _) (by have := hbw2.size; simp; omega) hb3) (by have := hbw2.size; have := hb3.size; simp at this; omega) hbn)
      | (refine wpList_load_row rfl 26 _ rfl w2.heap.size rfl 26 _ (0, 0) _ g3 Tryz.underlying26 rfl rfl ?_)
      | (refine wpList_load_row rfl 26 _ rfl w3.heap.size rfl 26 _ (0, 0) _ g4 Tryz.underlying26 rfl rfl ?_)
      | (go_at_call 10; refine (HS.out _ _ _ hclm hclm').mono ?_; rintro e w5 ⟨rfl, hb5⟩; have g5 := (hb5.block _ (heap_lt g3)).trans g3; have hbw5 := below_then hbw3 hbw3.size hb5)
      | (refine wpList_load_row_on rfl 26 _ rfl w2.heap.size rfl 26 _ (0, 0) _ g5 Tryz.underlying26 rfl rfl ?_)
      | (go_at_call 11; refine (HC.out _ _ (hclm.keep hb5)).mono ?_; rintro e w6 ⟨rfl, hb6⟩))
    go_ret
    exact ⟨rfl, below_then hbw5 hbw5.size hb6⟩
  · have hxb : ((x : Int) != 0) = true := by simp; omega
    clear hP s4 hx
    go_enter Tryz.func3, Tryz.ntmps3
    go_wp2_with (first
      | (go_at_call 7; refine (HA.out _ hv).mono ?_; rintro e w1 ⟨rfl, hb1⟩; have hv1 := hv.keep hb1)
      | (go_at_call 8; refine (HP.out _ hv1).mono ?_; rintro e w2 ⟨A, c, B, d, rfl, hcl, hb2⟩; have hbw2 := below_then hb1 hb1.size hb2; have g2 := heap_alloc_new w2 (.cells #[.slice A ws.length c, .slice B l.length d, .string mk] 26))
      | (go_at_call 9; refine (HR.out _).mono ?_; rintro e w3 ⟨A', c', B', d', rfl, hcl', hb3⟩; have g3 := heap_alloc_keep ((hb3.block _ (heap_lt g2)).trans g2) (.cells #[.slice A' ws.length c', .slice B' l.length d', .string mk] 26); have g4 := heap_alloc_new w3 (.cells #[.slice A' ws.length c', .slice B' l.length d', .string mk] 26); have hbn : Below w3.heap.size w3 (w3.alloc (.cells #[.slice A' ws.length c', .slice B' l.length d', .string mk] 26)) := (Below.refl _ _).alloc (Nat.le_refl _) _; have hclm := ((hcl.keep ((Below.refl _ _).alloc (Nat.le_refl _) _)).keep hb3).keep hbn; have hclm' := hcl'.keep hbn; have hbw3 := below_then (below_then (hbw2.alloc hbw2.size _) (by have := hbw2.size; simp; omega) hb3) (by have := hbw2.size; have := hb3.size; simp at this; omega) hbn)
      | (refine wpList_load_row rfl 26 _ rfl w2.heap.size rfl 26 _ (0, 0) _ g3 Tryz.underlying26 rfl rfl ?_)
      | (refine wpList_load_row rfl 26 _ rfl w3.heap.size rfl 26 _ (0, 0) _ g4 Tryz.underlying26 rfl rfl ?_)
      | (go_at_call 10; refine (HS.out _ _ _ hclm hclm').mono ?_; rintro e w5 ⟨rfl, hb5⟩; have g5 := (hb5.block _ (heap_lt g3)).trans g3; have hbw5 := below_then hbw3 hbw3.size hb5))
    go_ret
    exact ⟨rfl, hbw5⟩
end Go.Proofs.YtbjgfjmknnbahaaGreatDoor
