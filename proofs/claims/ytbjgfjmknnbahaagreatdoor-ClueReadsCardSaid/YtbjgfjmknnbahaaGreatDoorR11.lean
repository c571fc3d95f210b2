/-
  Proved: for every text, clue.Parse reads the text as the document's Parse does (the same clue, place and error), and what it reads without an error is a right clue. The conditions: the row's own (the seven package-level variables that it lists hold what the program's text lays).
-/
import Derived.Test.YtbjgfjmknnbahaaGreatDoorR8
import Derived.Test.YtbjgfjmknnbahaaGreatDoorR10
import Derived.Test.YtbjgfjmknnbahaaGreatDoorR2
/- Contract: rebusref16.Parse, of every text. -/
set_option linter.unusedVariables false
set_option linter.unusedSimpArgs false
namespace Go.Proofs.YtbjgfjmknnbahaaGreatDoor
open Go.RowKit

theorem seqFrom_ge (s : ByteArray) : ∀ f pos, ∀ x ∈ seqFrom s f pos, pos ≤ x.1 ∧ x.1 < s.size
  | 0, _, x, h => by simp [seqFrom] at h
  | f + 1, pos, x, h => by
    unfold seqFrom at h
    split at h
    · rename_i hp
      rcases List.mem_cons.1 h with rfl | h
      · exact ⟨Nat.le_refl _, hp⟩
      · have := seqFrom_ge s f _ x h
        have := width_pos s pos hp
        omega
    · simp at h
theorem seqFrom_mono (s : ByteArray) : ∀ f pos, (seqFrom s f pos).Pairwise (fun a b => a.1 < b.1)
  | 0, _ => by simp [seqFrom]
  | f + 1, pos => by
    unfold seqFrom
    split
    · rename_i hp
      refine List.pairwise_cons.2 ⟨fun x hx => ?_, seqFrom_mono s f _⟩
      have := (seqFrom_ge s f _ x hx).1
      have := width_pos s pos hp
      show pos < x.1
      omega
    · exact List.Pairwise.nil
theorem places_mono (s : ByteArray) (i j x y : Nat) (hij : i < j) (hx : ((seqs s).map (·.1))[i]? = some x) (hy : ((seqs s).map (·.1))[j]? = some y) : x < y := by
  rw [List.getElem?_map] at hx hy
  obtain ⟨a, ha, rfl⟩ := Option.map_eq_some_iff.1 hx
  obtain ⟨b, hb, rfl⟩ := Option.map_eq_some_iff.1 hy
  obtain ⟨hi, rfl⟩ := List.getElem?_eq_some_iff.1 ha
  obtain ⟨hj, rfl⟩ := List.getElem?_eq_some_iff.1 hb
  exact List.pairwise_iff_getElem.1 (seqFrom_mono s s.size 0) i j hi hj hij
theorem places_lt (s : ByteArray) (i x : Nat) (hx : ((seqs s).map (·.1))[i]? = some x) : x < s.size := by
  rw [List.getElem?_map] at hx
  obtain ⟨a, ha, rfl⟩ := Option.map_eq_some_iff.1 hx
  exact (seqFrom_ge s s.size 0 a (List.mem_of_getElem? ha)).2
/-- rebusref16.Parse. -/
theorem RefParse_any (s : ByteArray) (w : World) :
    Calls Tryz.prog 9 #[.string s] w fun e w' => PTold w w' (parseF s) e := by
  by_cases h : 65536 < s.size
  · refine RefParse_big s w h _ ?_
    unfold parseF parseL
    rw [if_pos h]
  · have hs : s.size ≤ 4294967296 := by omega
    have hl : (runes s).length = (seqs s).length := by simp [runes]
    have hR : ∀ W, Calls Tryz.prog 32 #[.string s] W fun e w' => Made W w' 21 1 (seqs s).length ((runes s).map eR) e := by
      rw [← hl]; exact fun W => RefRunes_any s W hs
    have hP : ∀ W, Calls Tryz.prog 33 #[.string s] W fun e w' => Made W w' 3 1 (seqs s).length (((seqs s).map (·.1)).map eI) e := fun W => RefPlaces_any s W hs
    have hm := places_mono s
    have ht := places_lt s
    have hle := seqs_length s
    have hrl := runes_le s
    have hpl : ((seqs s).map (·.1)).length = (seqs s).length := by simp
    unfold parseF
    generalize runes s = L at *
    generalize (seqs s).map (·.1) = Ps at *
    generalize (seqs s).length = n at *
    exact RefParse_L s L Ps n w (by omega) hl hpl hle hrl ht hm hR hP
end Go.Proofs.YtbjgfjmknnbahaaGreatDoor

/- Contract: rebuslaw16.ClueReads: true for every text. -/
set_option linter.unusedVariables false
set_option linter.unusedSimpArgs false
namespace Go.Proofs.YtbjgfjmknnbahaaGreatDoor
open Go.RowKit

theorem sameC_refl (ws : List ByteArray) (zs : List Int) (mk : ByteArray) : sameC ws ws zs zs mk mk = true := by simp [sameC]
/-- A whole row read, under a guard that is met. -/
theorem wpList_load_row_on {P : Program} {w : World} {ops : Array Oper} {rest : List Oper} {o : Oper} {a : Act} {Q : Exit → Act → World → Prop} (hwd : Region.wanted o (yielded ops a.tmps) = true) (ty : TypeId) (x : Operand) (ho : o.op = .load ty x)
    (g : Nat) (hx : a.eval x = .pointer (some ⟨g, 0, none⟩)) (t : TypeId) (cs : Array Value) (fr : Nat × Nat) (d : TypeDesc) (hg : w.heap[g]? = some (.cells cs t fr))
    (hu : P.underlying ty = some d) (hd : (match d with | .struct _ | .array _ _ => true | _ => false) = true) (hi : (P.info? ty).map (·.size) = some cs.size)
    (h : wpList P ops Q rest (a.put o.dst (.agg cs)) w) : wpList P ops Q (o :: rest) a w :=
  wpList_step fun K hK => by rw [if_pos hwd]; exact wp_load_row ty x ho g hx t cs fr d hg hu hd hi (hK _ _ h)
theorem heap_alloc_keep {w : World} {k : Nat} {o : Obj} (h : w.heap[k]? = some o) (o' : Obj) : (w.alloc o').heap[k]? = some o := (((Below.refl w.heap.size w).alloc (Nat.le_refl _) o').block k (heap_lt h)).trans h
set_option maxHeartbeats 4000000 in
set_option maxRecDepth 100000 in
theorem ClueReads_any (s : ByteArray) (w : World) (hv : Vars w) : Calls Tryz.prog 3 #[.string s] w fun e w' => e = .returned (.bool true) ∧ Below w.heap.size w w' := by
  have HA := Lib.hid (fun W (h : Vars W) => Awake_any W h)
  obtain ⟨P, hP⟩ : ∃ P, parseF s = P := ⟨_, rfl⟩
  obtain ⟨ws, l, mk, a, x⟩ := P
  obtain ⟨s1, s2, s3, s4⟩ := parse_small hP
  have HP := Lib.hid (fun W (h : Vars W) => (Parse_any s W h).mono (fun e w' k => (PTold.open (hP ▸ k))))
  have HR := Lib.hid (fun W => (RefParse_any s W).mono (fun e w' k => (PTold.open (hP ▸ k))))
  have HS := Lib.hid (fun v u W (ha : IsClue W v ws (l.map Int.ofNat) mk) (hb : IsClue W u ws (l.map Int.ofNat) mk) => (sameC_refl ws (l.map Int.ofNat) mk ▸ RefSame_any v u ws ws (l.map Int.ofNat) (l.map Int.ofNat) mk mk W ha hb (by omega) (by omega) (by simp; omega) (by simp; omega) : Calls Tryz.prog 10 #[v, u] W fun e w' => e = .returned (.bool true) ∧ Below W.heap.size W w'))
  by_cases hx : x = 0
  · subst hx
    have hr := parse_right hP
    have hs : s.size ≤ 4294967296 := parse_fits hP
    have HC := Lib.hid (fun v W hc => (hr ▸ Check_any v ws (l.map Int.ofNat) mk W hc (by omega) (by simp; omega) (by omega) (fun y hy => Nat.le_trans (s4 y hy) hs) : Calls Tryz.prog 11 #[v] W fun e w' => e = .returned (.int .i64 (0 : Nat)) ∧ Below W.heap.size W w'))
    clear hP s4 hr
    go_enter Tryz.func3, Tryz.ntmps3
    go_wp2_with (first
      | (go_at_call 7; refine (HA.out _ hv).mono ?_; rintro e w1 ⟨rfl, hb1⟩; have hv1 := hv.keep hb1)
      | (go_at_call 8; refine (HP.out _ hv1).mono ?_; rintro e w2 ⟨A, c, B, d, rfl, hcl, hb2⟩; have hbw2 := below_then hb1 hb1.size hb2; have g2 := heap_alloc_new w2 (.cells #[.slice A ws.length c, .slice B l.length d, .string mk] 26))
      | (go_at_call 9; refine (HR.out _).mono ?_; rintro e w3 ⟨A', c', B', d', rfl, hcl', hb3⟩; have g3 := heap_alloc_keep ((hb3.block _ (heap_lt g2)).trans g2) (.cells #[.slice A' ws.length c', .slice B' l.length d', .string mk] 26); have g4 := heap_alloc_new w3 (.cells #[.slice A' ws.length c', .slice B' l.length d', .string mk] 26); have hbn : Below w3.heap.size w3 (w3.alloc (.cells #[.slice A' ws.length c', .slice B' l.length d', .string mk] 26)) := (Below.refl _ _).alloc (Nat.le_refl _) _; have hclm := ((hcl.keep ((Below.refl _ _).alloc (Nat.le_refl _) _)).keep hb3).keep hbn; have hclm' := hcl'.keep hbn; have hbw3 := below_then (below_then (hbw2.alloc hbw2.size _) (by have := hbw2.size; simp; omega) hb3) (by have := hbw2.size; have := hb3.size; simp at this; omega) hbn)
      | (refine wpList_load_row rfl 26 _ rfl w2.heap.size rfl 26 _ (0, 0) _ g3 Tryz.underlying26 rfl rfl ?_)
      | (refine wpList_load_row rfl 26 _ rfl w3.heap.size rfl 26 _ (0, 0) _ g4 Tryz.underlying26 rfl rfl ?_)
      | (go_at_call 10; refine (HS.out _ _ _ hclm hclm').mono ?_; rintro e w5 ⟨rfl, hb5⟩; have g5 := (hb5.block _ (heap_lt g3)).trans g3; have hbw5 := below_then hbw3 hbw3.size hb5)
      | (refine wpList_load_row_on rfl 26 _ rfl w2.heap.size rfl 26 _ (0, 0) _ g5 Tryz.underlying26 rfl rfl ?_)
      | (go_at_call 11; refine (HC.out _ _ (hclm.keep hb5)).mono ?_; rintro e w6 ⟨rfl, hb6⟩))
    go_ret
    exact ⟨rfl, below_then hbw5 hbw5.size hb6⟩
  · have hxb : ((x : Int) != 0) = true := by simp; omega
    clear hP s4 hx
    go_enter Tryz.func3, Tryz.ntmps3
    go_wp2_with (first
      | (go_at_call 7; refine (HA.out _ hv).mono ?_; rintro e w1 ⟨rfl, hb1⟩; have hv1 := hv.keep hb1)
      | (go_at_call 8; refine (HP.out _ hv1).mono ?_; rintro e w2 ⟨A, c, B, d, rfl, hcl, hb2⟩; have hbw2 := below_then hb1 hb1.size hb2; have g2 := heap_alloc_new w2 (.cells #[.slice A ws.length c, .slice B l.length d, .string mk] 26))
      | (go_at_call 9; refine (HR.out _).mono ?_; rintro e w3 ⟨A', c', B', d', rfl, hcl', hb3⟩; have g3 := heap_alloc_keep ((hb3.block _ (heap_lt g2)).trans g2) (.cells #[.slice A' ws.length c', .slice B' l.length d', .string mk] 26); have g4 := heap_alloc_new w3 (.cells #[.slice A' ws.length c', .slice B' l.length d', .string mk] 26); have hbn : Below w3.heap.size w3 (w3.alloc (.cells #[.slice A' ws.length c', .slice B' l.length d', .string mk] 26)) := (Below.refl _ _).alloc (Nat.le_refl _) _; have hclm := ((hcl.keep ((Below.refl _ _).alloc (Nat.le_refl _) _)).keep hb3).keep hbn; have hclm' := hcl'.keep hbn; have hbw3 := below_then (below_then (hbw2.alloc hbw2.size _) (by have := hbw2.size; simp; omega) hb3) (by have := hbw2.size; have := hb3.size; simp at this; omega) hbn)
      | (refine wpList_load_row rfl 26 _ rfl w2.heap.size rfl 26 _ (0, 0) _ g3 Tryz.underlying26 rfl rfl ?_)
      | (refine wpList_load_row rfl 26 _ rfl w3.heap.size rfl 26 _ (0, 0) _ g4 Tryz.underlying26 rfl rfl ?_)
      | (go_at_call 10; refine (HS.out _ _ _ hclm hclm').mono ?_; rintro e w5 ⟨rfl, hb5⟩; have g5 := (hb5.block _ (heap_lt g3)).trans g3; have hbw5 := below_then hbw3 hbw3.size hb5))
    go_ret
    exact ⟨rfl, hbw5⟩
end Go.Proofs.YtbjgfjmknnbahaaGreatDoor

/-
  Proved: for every text, clue.Parse reads the text as the document's Parse does (the same clue, place and error), and what it reads without an error is a right clue. The conditions: the row's own (the seven package-level variables that it lists hold what the program's text lays).
-/
namespace Go.Proofs.YtbjgfjmknnbahaaGreatDoor.clueReads
open Go.ChangeShapes Go.WideShapes Go.ChangeAt Go.RowKit
open Go.ChangeMaps (open_string shut_string)

set_option maxRecDepth 100000 in
theorem contract (H : Type) (enc : TypeId × Value → H) (W : World) (base : Nat) (args : Array Value) (ds gs : List (DataW H)) (before : List MemPlace)
    (hval : ∀ (j : Nat) t v, Tryz.f3.params[j]? = some t → args[j]? = some v → Value.okWide Tryz.prog W .any base t v)
    (hW : DataW.Whole enc Tryz.prog Tryz.f3.params.toList Rows.clueReadsSpec.vars false W args.toList ds gs before) (hL : laidMetH Tryz.prog Rows.clueReadsRow.laid W) :
    Calls Tryz.prog 3 args W fun e W' => ∃ v, e = .returned v ∧ Rows.clueReadsSpec.post enc Tryz.prog Tryz.f3 false true false false W args v W' := by
  have hW' := hW
  obtain ⟨p, q, hA0, hV, rfl, hfz, hnd⟩ := hW
  have hA : DataW.TrodAll enc Tryz.prog W 0 (fun _ => true) true Tryz.f3.params.toList args.toList ds p := hA0
  rw [Tryz.params3] at hA hval
  obtain ⟨v0, d0, rfl, rfl, h0⟩ := trodAll_one hA
  obtain ⟨rfl, rfl⟩ := trodVars_none hV
  obtain ⟨s, rfl, rfl, rfl, ws⟩ := open_string Tryz.underlying9 (hval 0 9 v0 rfl rfl) h0
  clear hA0
  simp only [List.append_nil] at hW'
  refine (ClueReads_any s W (vars_of hL)).mono fun e W' ⟨he, hb⟩ => ?_
  subst he
  exact ⟨_, rfl, post_of_below (pa := []) (pv := []) hW' (fun _ _ _ => trodAll_cons_mk (shut_bool Tryz.underlying4 _) trodAll_mk0) (fun _ _ => trodAll_mk1 (shut_string Tryz.underlying9 ws)) (fun _ _ => rfl) rfl
    hb (ok_one (by kernel_rfl) rfl (okWide_bool_mk Tryz.underlying4 _))⟩
theorem reads (os : Os) {H : Type} (enc : TypeId × Value → H) : ∃ places, DataW.whole enc Tryz.prog ((laidWorld os).forCall (fun _ _ => 0) ⟨#[], #[.string ⟨#[]⟩], []⟩).memory Tryz.f3.params.toList Rows.clueReadsSpec.vars false #[Value.string ⟨#[]⟩].toList 8 = some ([.lit (.string [])], [], places) :=
  ⟨[], by kernel_rfl⟩

set_option maxRecDepth 100000 in
theorem lifted (os : Os) (started : os.Started) (H : Type) (enc : TypeId × Value → H) (F : Stop.Interp) :
    ReturnsInHanded {} Tryz.checked os 3 .any ((OpenSpec.ofChange Rows.clueReadsSpec).preRow enc Tryz.prog Tryz.f3 Rows.clueReadsRow.domain false Rows.clueReadsRow.laid) (((OpenSpec.ofChange Rows.clueReadsSpec).at F).post enc Tryz.prog Tryz.f3 false true false false) := by
  obtain ⟨places, hx⟩ := reads os enc
  refine returnsInHanded_of_row (C := Tryz.checked) (s := OpenSpec.ofChange Rows.clueReadsSpec) own started (by kernel_rfl) Tryz.func3
    (witness_row_atRef (enc := enc) (C := Tryz.checked) false (laidWorld os) #[.string ⟨#[]⟩] rfl (by kernel_rfl) (by kernel_rfl) (by kernel_rfl)
      (OpenSpec.preRow_of_cond 8 hx (by kernel_rfl) (fun k hk => by cases hk) (by kernel_rfl) (laid_met os _))) ?_
  intro W base args ds gs before hval hW _ _ _ hL _ _
  exact contract H enc W base args ds gs before hval hW hL
theorem said : Rows.ClueReadsSaid :=
  OpenClaim.holds_of_cond 3 Tryz.f3 rfl rfl rfl rfl rfl rfl rfl ⟨rfl, rfl, rfl, rfl, rfl⟩ rfl rfl rfl rfl rfl (by kernel_rfl) Tryz.func3 (by kernel_rfl)
    (of_decide_eq_true (by kernel_rfl)) (by unfold Func.isWrapper; first | (rw [if_pos (by decide +kernel)]; kernel_rfl) | (rw [if_neg (by decide +kernel)]; exact ⟨rfl, rfl⟩))
    (fun os started H enc _ F => by rw [OpenClaim.pre_eq_preRow]; exact lifted os started H enc F)
theorem plain (f : FuncId) (fn : Func) (hf : Tryz.pinned.checked.prog.funcNamed "rebus/rebuslaw16.ClueReads" = some f) (hfn : Tryz.pinned.checked.prog.funcs[f]? = some fn) :
    true = Tryz.pinned.checked.prog.looks [] ∧ ∀ (j : Nat) t, fn.params[j]? = some t → Tryz.pinned.checked.prog.wantsStandIn t = false := by
  obtain rfl : f = 3 := Option.some.inj ((show Tryz.prog.funcNamed "rebus/rebuslaw16.ClueReads" = some 3 by kernel_rfl).symm.trans hf) |>.symm
  obtain rfl : fn = Tryz.f3 := (Option.some.inj (Tryz.func3.symm.trans hfn)).symm
  refine ⟨by kernel_rfl, fun j t ht => ?_⟩
  rw [Tryz.params3] at ht
  obtain rfl : t = 9 := by simpa using Array.mem_of_getElem? ht
  exact (show Tryz.prog.wantsStandIn 9 = false by kernel_rfl)
/-- The tied card. -/
theorem card : Rows.ClueReadsCardSaid :=
  Claim7.holds_tied_plain_at .later [] _ _ _ _ said (fun _ h => by cases h) (by kernel_rfl) (fun _ h => by cases h) clueReads_row_tie rfl ⟨rfl, rfl⟩ (by kernel_rfl) rfl plain (by kernel_rfl)
end Go.Proofs.YtbjgfjmknnbahaaGreatDoor.clueReads
