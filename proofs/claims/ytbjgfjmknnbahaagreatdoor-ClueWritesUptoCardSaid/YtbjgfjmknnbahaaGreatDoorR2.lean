/- Texts joined: Mem, Vars, LaidW, Places, SizesSpec, FoldTab, FoldSpec, Next, Next2. -/
import Derived.Test.YtbjgfjmknnbahaaGreatDoorR1
import Derived.Below
import Derived.Laws.OwnMore
import Derived.Laws.Rows
import Derived.Deep.AppendLies
import Derived.Deep.Draws
import Derived.Maps.AppendAt
import Derived.Lib.OthersKept
import Derived.Shelf.Unicode.DecodeSlow
import Derived.Lib.AtoiErrMem
import Derived.Test.YtbjgfjmknnbahaaGreatDoorCards
import Derived.Test.YtbjgfjmknnbahaaGreatDoorTie
import Derived.Deep.DeepHandedRow
import Derived.Deep.DeepWitnessRowRef
import Derived.Lib.LaidIn
import Derived.Lib.LaidTab
import Derived.Lib.LaidU8
import Derived.Stop.LaidErr
import Derived.ProofKit
import Derived.OpenShut
import Derived.ChangeSame
import Derived.Lib.TrimUEq
import Derived.Lib.RuneBytes
import Derived.Test.YtbjgfjmknnbahaaGreatDoorProg
import Derived.WalkKit
import Derived.BigCall
import Derived.Lib.Hide
import Derived.WalkSpells
import Derived.WalkSmall
import Derived.Deep.Light
import Derived.Lib.DecodeN
import Derived.LoopN
/- Words on memory: a slice that reads as a list of cells; what is owned reads. -/
set_option linter.unusedVariables false
set_option linter.unusedSimpArgs false
namespace Go.Proofs.YtbjgfjmknnbahaaGreatDoor
open Go.RowKit

theorem below_then {B : Nat} {w w1 w2 : World} (h : Below B w w1) (hB : B ≤ w1.heap.size) (k : Below w1.heap.size w1 w2) : Below B w w2 := h.trans (k.mono hB)
theorem below_drw {B : Nat} {a w : World} (h : Below B a w) (n : Nat) : Below B a (w.drewN n) := ⟨h.os, h.tape, h.output, h.size, h.block⟩
theorem cell_keep {w w1 : World} (h : Below w.heap.size w w1) {a : Addr} {v : Value} (hc : w.cell? a = some v) : w1.cell? a = some v := (h.cell (World.block_lt_of_cell? w a hc)).trans hc
theorem own_keep {w w1 : World} {base e size n : Nat} {v : Value} {xs : List Value} (h : w.ownsRow base e size v n xs) (hb : Below w.heap.size w w1) : w1.ownsRow base e size v n xs :=
  h.kept (row := none) ⟨hb.os, hb.tape, hb.output, hb.size, fun i hi _ => hb.block i hi⟩ (by cases v.ownBlock <;> simp)
theorem own_base {w : World} {base base' e size n : Nat} {v : Value} {xs : List Value} (h : w.ownsRow base e size v n xs) (hb : base' ≤ base) : w.ownsRow base' e size v n xs := by
  refine ⟨h.1, ?_⟩
  rcases h.2 with hn | ⟨g, cap, cur, hv, hg, rest⟩
  · exact .inl hn
  · exact .inr ⟨g, cap, cur, hv, Nat.le_trans hb hg, rest⟩

/-- '.slice A n c' reads as the cells cs, k cells an element. -/
def Rd (w : World) (k : Nat) (A : Option Addr) (n : Nat) (cs : List Value) : Prop :=
  cs.length = n * k ∧ (0 < n → ∃ b o, A = some ⟨b, o, none⟩ ∧ ∀ j u, cs[j]? = some u → w.cell? ⟨b, o + j, none⟩ = some u)
theorem Rd.nil {w : World} {k : Nat} {A : Option Addr} : Rd w k A 0 [] := ⟨by simp, fun h => absurd h (by omega)⟩
theorem Rd.keep {w w1 : World} {k : Nat} {A : Option Addr} {n : Nat} {cs : List Value} (h : Rd w k A n cs) (hb : Below w.heap.size w w1) : Rd w1 k A n cs :=
  ⟨h.1, fun hn => by
    obtain ⟨b, o, e, hc⟩ := h.2 hn
    exact ⟨b, o, e, fun j u hu => cell_keep hb (hc j u hu)⟩⟩
theorem Rd.below {B : Nat} {w w1 : World} {k : Nat} {A : Option Addr} {n : Nat} {cs : List Value} (h : Rd w k A n cs) (hb : Below B w w1) (hB : w.heap.size ≤ B) : Rd w1 k A n cs := h.keep (hb.mono hB)
theorem Rd.drewN {w : World} {k : Nat} {A : Option Addr} {n : Nat} {cs : List Value} (h : Rd w k A n cs) (q : Nat) : Rd (w.drewN q) k A n cs := h
theorem Rd.len {w : World} {k : Nat} {A : Option Addr} {n : Nat} {cs : List Value} (h : Rd w k A n cs) : cs.length = n * k := h.1
/-- One element of one cell. -/
theorem Rd.at1 {α : Type} {f : α → Value} {w : World} {A : Option Addr} {n : Nat} {xs : List α} (h : Rd w 1 A n (xs.map f)) {i : Nat} (hi : i < n) :
    ∃ b o x, A = some ⟨b, o, none⟩ ∧ xs[i]? = some x ∧ w.cell? ⟨b, o + i, none⟩ = some (f x) := by
  obtain ⟨b, o, e, hc⟩ := h.2 (by omega)
  have hl : i < xs.length := by have := h.1; simp at this; omega
  exact ⟨b, o, xs[i], e, List.getElem?_eq_getElem hl, hc i _ (by simp [List.getElem?_eq_getElem hl])⟩
theorem own_rd {w : World} {base e k n : Nat} {v : Value} {cs : List Value} (h : w.ownsRow base e k v n cs) : ∃ A c, v = .slice A n c ∧ n ≤ c ∧ c ≤ maxLen ∧ Rd w k A n cs := by
  rcases h.2 with ⟨rfl, h0⟩ | ⟨g, cap, cur, rfl, hb, hh, h1, h2, h3, h4⟩
  · subst h0
    have : cs = [] := List.eq_nil_of_length_eq_zero (by simpa using h.1)
    subst this
    exact ⟨none, 0, rfl, Nat.le_refl _, Nat.zero_le _, Rd.nil⟩
  · refine ⟨_, cap, rfl, h1, h2, h.1, fun hn => ⟨g, 0, rfl, fun j u hu => ?_⟩⟩
    rw [Nat.zero_add]
    have := h.cells (g := g) rfl j u hu
    have hp : (⟨g, 0, none⟩ : Addr).add j = ⟨g, j, none⟩ := by unfold Addr.add; split <;> simp_all
    rwa [hp] at this
/-- A result that is a slice in new memory: n elements of k cells of type E. -/
def Made (w w' : World) (E k n : Nat) (cs : List Value) (e : Ending) : Prop :=
  ∃ A c, e = .returned (.slice A n c) ∧ n ≤ c ∧ c ≤ maxLen ∧ w'.ownsRow w.heap.size E k (.slice A n c) n cs ∧ Rd w' k A n cs ∧ Below w.heap.size w w'
theorem made_of {w w' : World} {E k n : Nat} {v : Value} {cs : List Value} (h : w'.ownsRow w.heap.size E k v n cs) (hb : Below w.heap.size w w') : Made w w' E k n cs (.returned v) := by
  obtain ⟨A, c, rfl, h1, h2, hr⟩ := own_rd h
  exact ⟨A, c, rfl, h1, h2, h, hr, hb⟩
theorem drop_cons {α : Type} {l : List α} {i : Nat} {x : α} (h : l[i]? = some x) : l.drop i = x :: l.drop (i + 1) := by
  obtain ⟨hi, rfl⟩ := List.getElem?_eq_some_iff.1 h
  exact List.drop_eq_getElem_cons hi
end Go.Proofs.YtbjgfjmknnbahaaGreatDoor

/- What the package-level variables of Go's library hold; strconv.Atoi. -/
set_option linter.unusedVariables false
set_option linter.unusedSimpArgs false
namespace Go.Proofs.YtbjgfjmknnbahaaGreatDoor
open Go.RowKit

theorem gSyn : Tryz.prog.globalNamed "strconv.ErrSyntax" = some 3 := by kernel_rfl
theorem gRng : Tryz.prog.globalNamed "strconv.ErrRange" = some 4 := by kernel_rfl
theorem var_keep {w w1 : World} (hb : Below w.heap.size w w1) {nm : String} {g : Nat} (hg : Tryz.prog.globalNamed nm = some g) {cs : Array Value} (h : w.var? Tryz.prog nm = some cs) : w1.var? Tryz.prog nm = some cs := by
  unfold World.var? at h ⊢
  rw [hg] at h ⊢
  simp only [Option.bind_some] at h ⊢
  have hlt : g < w.heap.size := by
    rcases Nat.lt_or_ge g w.heap.size with h1 | h1
    · exact h1
    · rw [Array.getElem?_eq_none h1] at h; cases h
  rw [hb.block g hlt]
  exact h
/-- The variables, as the program's text lays them. -/
structure Vars (w : World) : Prop where
  tabs : Lib.Utf8Tabs 1 2 w
  syn : ∃ tp p, w.var? Tryz.prog "strconv.ErrSyntax" = some #[.iface tp p]
  rng : ∃ tp p, w.var? Tryz.prog "strconv.ErrRange" = some #[.iface tp p]
theorem Vars.keep {w w1 : World} (h : Vars w) (hb : Below w.heap.size w w1) : Vars w1 := by
  obtain ⟨⟨t1, t2⟩, ⟨tp, p, h1⟩, ⟨tq, q, h2⟩⟩ := h
  exact ⟨⟨fun c hc => cell_keep hb (t1 c hc), fun i hi => ⟨cell_keep hb (t2 i hi).1, cell_keep hb (t2 i hi).2⟩⟩, ⟨tp, p, var_keep hb gSyn h1⟩, ⟨tq, q, var_keep hb gRng h2⟩⟩
theorem Atoi_good (s : ByteArray) (v : Int) (w : World) (hs : s.size ≤ 4294967296) (h : Lib.atoiAll s.data.toList = .ok v) :
    Calls Tryz.prog 65 #[.string s] w fun e w' => e = .returned (.tuple #[.int .i64 v, .nilIface]) ∧ Below w.heap.size w w' := by
  refine (Tryz.strconv_Atoi_ok s (by omega) v h w).mono ?_
  rintro e w' ⟨he, hw⟩
  refine ⟨he, ?_⟩
  rcases hw with rfl | ⟨t, rfl⟩
  · exact Below.refl _ _
  · exact Lib.bytesWorld_below w _ t
/-- Atoi's error: a value that is not nil. -/
theorem Atoi_bad (s : ByteArray) (w : World) (hs : s.size ≤ 4294967296) (hv : Vars w) (h : ∀ v, Lib.atoiAll s.data.toList ≠ .ok v) :
    Calls Tryz.prog 65 #[.string s] w fun e w' => (∃ x N, e = .returned (.tuple #[.int .i64 x, .iface 134 (.pointer (some ⟨N, 0, none⟩))])) ∧ Below w.heap.size w w' := by
  rcases ha : Lib.atoiAll s.data.toList with v | _ | _
  · exact absurd ha (h v)
  · obtain ⟨tp, p, hp⟩ := hv.syn
    refine (Tryz.strconv_Atoi_syntax_var s (by omega) ha tp p w hp).mono ?_
    rintro e w' ⟨N, he, _, _, hb⟩
    exact ⟨⟨0, N, he⟩, hb⟩
  · obtain ⟨tp, p, hp⟩ := hv.rng
    refine (Tryz.strconv_Atoi_range_var s (by omega) ha tp p w hp).mono ?_
    rintro e w' ⟨N, he, _, _, hb⟩
    exact ⟨⟨_, N, he⟩, hb⟩
end Go.Proofs.YtbjgfjmknnbahaaGreatDoor

/- The variables that the rows of the clue laws list: what they give; a world that holds them. -/
set_option linter.unusedVariables false
set_option linter.unusedSimpArgs false
namespace Go.Proofs.YtbjgfjmknnbahaaGreatDoor
open Go.ChangeShapes Go.WideShapes Go.ChangeAt Go.RowKit Go.Lib

section
variable {H : Type} {enc : TypeId × Value → H} {P : Program}
/-- The row's last step where the call leaves a world of which what lay below is known. -/
theorem post_of_below {f : Func} {s : ChangeSpec} {apart fresh handsOn again : Bool} {W W' : World} {args : Array Value} {v : Value} {ds gs : List (DataW H)} {before pa pv : List MemPlace}
    (hW : DataW.Whole enc P f.params.toList s.vars apart W args.toList ds gs before)
    (hres : ∀ (b : Nat) (sp : Nat → Bool) (hd : Bool), DataW.TrodAll enc P W' b sp hd f.resultTypes.toList (v.resultList f.resultTypes.size) (s.fn H (ds ++ gs)).results [])
    (hargs : ∀ sp : Nat → Bool, (∀ p ∈ before, sp p.block = true) → DataW.TrodAll enc P W' 0 sp true f.params.toList args.toList (s.fn H (ds ++ gs)).args pa)
    (hvars : ∀ sp : Nat → Bool, (∀ p ∈ before, sp p.block = true) → DataW.TrodVars enc P W' sp s.vars (s.fn H (ds ++ gs)).vars pv)
    (hps : before = pa ++ pv) (hb : Below W.heap.size W W')
    (hok : ∀ (j : Nat) (t : TypeId) (r : Value), f.resultTypes[j]? = some t → (v.resultList f.resultTypes.size)[j]? = some r → Value.okWide P W' .any 0 t r) :
    s.post enc P f apart fresh handsOn again W args v W' := by
  have hlt : ∀ p ∈ before, p.block < W.heap.size := fun p hp => hW.lt p hp
  have hold : ∀ p ∈ before, (fun b => decide (b < W.heap.size)) p.block = true := fun p hp => by simpa using hlt p hp
  refine ⟨ds, gs, before, [], pa, pv, hW, hres _ _ _, hargs _ hold, hvars _ hold, World.keptBut_mono (fun p hp => ⟨hp, ?_⟩) (hb.frame (· ∈ before)), fun _ => ?_⟩
  · rw [hps, List.mem_append] at hp
    exact Or.inr hp
  · obtain ⟨_, _, _, _, _, hz, hn⟩ := hW
    refine ⟨hok, _, _, ([] ++ pa) ++ pv, ⟨[] ++ pa, pv, trodAll_append (hargs _ (fun _ _ => rfl)) (hres _ _ _), hvars _ (fun _ _ => rfl), rfl, ?_, ?_⟩, ?_⟩
    · intro b off hp
      have hin : MemPlace.cell b off ∈ before := by rw [hps]; simpa using hp
      rw [hb.frozen (hlt _ hin)]
      exact hz b off hin
    · intro ha
      have := hn ha
      rw [hps] at this
      simpa using this
    · intro p hp _
      rw [hps]
      simpa using hp
end

theorem own : ownKnob Tryz.prog.godebug = none := by kernel_rfl
theorem star : "*" ++ "errors.errorString" = "*errors.errorString" := by decide
theorem rowErr (u : TypeId) (h : Tryz.prog.typeName? 3 u = some "*errors.errorString") : u = 155 :=
  typeName_ptr_named (nm := "errors.errorString") (by rw [star]; kernel_rfl) (by kernel_rfl) (by decide) u (by rw [star]; exact h)
theorem first_eq : Rows.laid_unicode_utf8_first = Lib.firstData := by kernel_rfl
theorem accept_eq : (Rows.laid_unicode_utf8_acceptRanges : DataW Unit) = Lib.acceptData := by kernel_rfl
/-- What the rows' list gives. -/
theorem vars_of {W : World} (h : laidMetH Tryz.prog Rows.clueReadsRow.laid W) : Vars W := by
  have hL : laidMet Tryz.prog Rows.clueReadsRow.laid W := h
  obtain ⟨a0, t0, hv0, _⟩ := laid_sentinel (g := 4) hL.tail.tail.tail.tail (by kernel_rfl) (by kernel_rfl) Tryz.underlying79 rowErr Tryz.underlying155 Tryz.underlying157 rfl rfl Tryz.underlying9 (by kernel_rfl) (by kernel_rfl)
  obtain ⟨a1, t1, hv1, _⟩ := laid_sentinel (g := 3) hL.tail.tail.tail.tail.tail (by kernel_rfl) (by kernel_rfl) Tryz.underlying79 rowErr Tryz.underlying155 Tryz.underlying157 rfl rfl Tryz.underlying9 (by kernel_rfl) (by kernel_rfl)
  have hf := Lib.laidMet.reads hL (.tail _ (.tail _ (.tail _ (.tail _ (.tail _ (.tail _ (.head _)))))))
  have ha := Lib.laidMet.reads hL (.tail _ (.tail _ (.tail _ (.head _))))
  rw [first_eq] at hf
  rw [accept_eq] at ha
  exact ⟨utf8Tabs_of_reads (ρ := Tryz.lays238_ren) { Tryz.lays238 with } ⟨by kernel_rfl, by kernel_rfl, by kernel_rfl, by kernel_rfl, by kernel_rfl, by kernel_rfl, by kernel_rfl⟩ hf ha, ⟨_, _, hv1⟩, ⟨_, _, hv0⟩⟩

/-- A world for the witnesses: the settled one with two blocks more (the two errors), the variables holding what their initialisers lay. -/
noncomputable def laidWorld (os : Os) : World :=
  let N := (World.settled Tryz.prog os).heap.size
  let w0 := World.holding Tryz.prog os ⟨#[.cells #[.string ⟨#[118, 97, 108, 117, 101, 32, 111, 117, 116, 32, 111, 102, 32, 114, 97, 110, 103, 101]⟩] 157, .cells #[.string ⟨#[105, 110, 118, 97, 108, 105, 100, 32, 115, 121, 110, 116, 97, 120]⟩] 157], #[], []⟩
  let put (h : Array Obj) (g : Nat) (cs : Array Value) : Array Obj := h.modify g fun
    | .cells _ t frozen => .cells cs t frozen
    | o => o
  let h1 := put w0.heap 1 (Lib.firstTab.map fun z => Value.int .u8 z).toArray
  let h2 := put h1 2 ((List.range 16).flatMap fun i => [Value.int .u8 (Lib.accLo i), Value.int .u8 (Lib.accHi i)]).toArray
  let h3 := put h2 3 #[.iface 155 (.pointer (some ⟨N + 1, 0, none⟩))]
  let h4 := put h3 4 #[.iface 155 (.pointer (some ⟨N, 0, none⟩))]
  let h5 := put h4 5 #[.int .u64 1, .int .u64 10, .int .u64 100, .int .u64 1000, .int .u64 10000, .int .u64 100000, .int .u64 1000000, .int .u64 10000000, .int .u64 100000000, .int .u64 1000000000, .int .u64 10000000000, .int .u64 100000000000, .int .u64 1000000000000, .int .u64 10000000000000, .int .u64 100000000000000, .int .u64 1000000000000000, .int .u64 10000000000000000, .int .u64 100000000000000000, .int .u64 1000000000000000000, .int .u64 10000000000000000000]
  let h6 := put h5 6 (([0, 1, 28, 2, 29, 14, 24, 3, 30, 22, 20, 15, 25, 17, 4, 8, 31, 27, 13, 23, 21, 19, 16, 7, 26, 12, 18, 6, 11, 5, 10, 9] : List Int).map (Value.int .u8)).toArray
  let h7 := put h6 7 (([0, 1, 56, 2, 57, 49, 28, 3, 61, 58, 42, 50, 38, 29, 17, 4, 62, 47, 59, 36, 45, 43, 51, 22, 53, 39, 33, 30, 24, 18, 12, 5, 63, 55, 48, 27, 60, 41, 37, 16, 46, 35, 44, 21, 52, 32, 23, 11, 54, 26, 40, 15, 34, 20, 31, 10, 25, 14, 19, 9, 13, 8, 7, 6] : List Int).map (Value.int .u8)).toArray
  { w0 with heap := h7 }
noncomputable abbrev N0 : Nat := (World.settled Tryz.prog default).heap.size
theorem laid_met (os : Os) (args : Array Value) : laidMet Tryz.prog Rows.clueReadsRow.laid ((laidWorld os).forCall (fun _ _ => 0) ⟨#[], args, []⟩).memory :=
  (LaidIn.of_run [1, 2, 3, 4, 5, 6, 7, N0, N0 + 1] 8 (by kernel_rfl) (by kernel_rfl) (by kernel_rfl) (by kernel_rfl)).met
end Go.Proofs.YtbjgfjmknnbahaaGreatDoor

/- Plain Lean: the places of a text's runes. -/
set_option linter.unusedVariables false
set_option linter.unusedSimpArgs false
namespace Go.Proofs.YtbjgfjmknnbahaaGreatDoor
open Go.RowKit

/-- Behind a rune's first byte stand continuation bytes. -/
theorem decode_conts (s : ByteArray) (p : Nat) : ∀ k, 0 < k → k < (Utf8.decode s p).2 → (s.get! (p + k)).toNat / 64 = 2 := by
  rw [Lib.decode_at]
  have key : ∀ (n B0 B1 B2 B3 : Nat), (1 < (Lib.decodeN n B0 B1 B2 B3).2 → B1 / 64 = 2) ∧ (2 < (Lib.decodeN n B0 B1 B2 B3).2 → B2 / 64 = 2) ∧ (3 < (Lib.decodeN n B0 B1 B2 B3).2 → B3 / 64 = 2) ∧ (Lib.decodeN n B0 B1 B2 B3).2 ≤ 4 := by
    intro n B0 B1 B2 B3
    unfold Lib.decodeN
    repeat' split
    all_goals (refine ⟨?_, ?_, ?_, ?_⟩ <;> simp only <;> omega)
  obtain ⟨k1, k2, k3, k4⟩ := key (s.size - p) (s.get! p).toNat (s.get! (p + 1)).toNat (s.get! (p + 2)).toNat (s.get! (p + 3)).toNat
  intro k h0 hk
  rcases (show k = 1 ∨ k = 2 ∨ k = 3 by omega) with rfl | rfl | rfl
  · exact k1 hk
  · exact k2 hk
  · exact k3 hk
theorem decode_hi (s : ByteArray) (p : Nat) (h : 128 ≤ (s.get! p).toNat) : 128 ≤ (Utf8.decode s p).1 := by
  rw [Lib.decode_at]
  unfold Lib.decodeN
  repeat' split
  all_goals (simp only; omega)
theorem decode_lo (s : ByteArray) (p : Nat) (h : (s.get! p).toNat < 128) : Utf8.decode s p = ((s.get! p).toNat, 1) := by
  rw [Lib.decode_at]
  unfold Lib.decodeN
  rw [if_pos h]
/-- All of a rune's bytes are from 128 on if its first one is. -/
theorem decode_all_hi (s : ByteArray) (p : Nat) (h : 128 ≤ (s.get! p).toNat) (k : Nat) (hk : k < (Utf8.decode s p).2) : 128 ≤ (s.get! (p + k)).toNat := by
  rcases Nat.eq_zero_or_pos k with rfl | h0
  · exact h
  · have := decode_conts s p k h0 hk
    omega

/-- The place of rune k; behind the last one, the text's size. -/
def place (s : ByteArray) (k : Nat) : Nat := ((seqs s).map (·.1)).getD k s.size
theorem seqFrom_head (s : ByteArray) (f pos : Nat) (h : s.size ≤ pos + f) (hp : pos ≤ s.size) : ((seqFrom s f pos).map (·.1)).getD 0 s.size = pos := by
  cases f with
  | zero =>
    simp only [seqFrom, List.map_nil, List.getD_nil]
    omega
  | succ f =>
    unfold seqFrom
    split
    · simp
    · simp only [List.map_nil, List.getD_nil]
      omega
theorem seqFrom_at (s : ByteArray) : ∀ (f pos : Nat), s.size ≤ pos + f → pos ≤ s.size → ∀ k, k < (seqFrom s f pos).length →
    ∃ p, (seqFrom s f pos)[k]? = some (p, (Utf8.decode s p).1) ∧ p < s.size ∧ ((seqFrom s f pos).map (·.1)).getD (k + 1) s.size = p + (Utf8.decode s p).2
  | 0, pos, h, hp, k, hk => by simp [seqFrom] at hk
  | f + 1, pos, h, hp, k, hk => by
    by_cases hl : pos < s.size
    · have hw := width_pos s pos hl
      have hi := width_in s pos hl
      have e : seqFrom s (f + 1) pos = (pos, (Utf8.decode s pos).1) :: seqFrom s f (pos + (Utf8.decode s pos).2) := by
        rw [seqFrom, if_pos hl]
      rw [e] at hk ⊢
      cases k with
      | zero =>
        refine ⟨pos, rfl, hl, ?_⟩
        rw [List.map_cons, List.getD_cons_succ]
        exact seqFrom_head s f _ (by omega) hi
      | succ k =>
        obtain ⟨p, h1, h2, h3⟩ := seqFrom_at s f (pos + (Utf8.decode s pos).2) (by omega) hi k (by simpa using hk)
        refine ⟨p, by rw [List.getElem?_cons_succ]; exact h1, h2, ?_⟩
        rw [List.map_cons, List.getD_cons_succ]
        exact h3
    · rw [seqFrom_end s _ _ hl] at hk
      simp at hk
theorem place_zero (s : ByteArray) : place s 0 = 0 := seqFrom_head s s.size 0 (by omega) (Nat.zero_le _)
theorem place_end (s : ByteArray) : place s (runes s).length = s.size := by
  unfold place runes
  rw [List.getD_eq_getElem?_getD, List.getElem?_eq_none (by simp)]
  rfl
/-- Rune k: what it is, and where the next one begins. -/
theorem place_step (s : ByteArray) (k : Nat) (hk : k < (runes s).length) :
    (runes s).getD k 0 = (Utf8.decode s (place s k)).1 ∧ place s k < s.size ∧ place s (k + 1) = place s k + (Utf8.decode s (place s k)).2 := by
  obtain ⟨p, h1, h2, h3⟩ := seqFrom_at s s.size 0 (by omega) (Nat.zero_le _) k (by simpa [runes, seqs] using hk)
  have hp : place s k = p := by
    unfold place seqs
    rw [List.getD_eq_getElem?_getD, List.getElem?_map, h1]
    rfl
  rw [hp]
  refine ⟨?_, h2, h3⟩
  unfold runes seqs
  rw [List.getD_eq_getElem?_getD, List.getElem?_map, h1]
  rfl
theorem place_lt_succ (s : ByteArray) (k : Nat) (hk : k < (runes s).length) : place s k < place s (k + 1) := by
  obtain ⟨_, h2, h3⟩ := place_step s k hk
  have := width_pos s (place s k) h2
  omega
theorem place_mono (s : ByteArray) : ∀ (j k : Nat), k ≤ (runes s).length → j ≤ k → place s j ≤ place s k
  | j, 0, _, h => by obtain rfl : j = 0 := by omega
                     exact Nat.le_refl _
  | j, k + 1, hk, h => by
    rcases Nat.lt_or_ge j (k + 1) with h1 | h1
    · have := place_mono s j k (by omega) (by omega)
      have := place_lt_succ s k (by omega)
      omega
    · obtain rfl : j = k + 1 := by omega
      exact Nat.le_refl _
theorem place_strict (s : ByteArray) (j k : Nat) (hk : k ≤ (runes s).length) (h : j < k) : place s j < place s k := by
  have := place_mono s (j + 1) k hk h
  have := place_lt_succ s j (by omega)
  omega
theorem place_inj (s : ByteArray) (j k : Nat) (hj : j ≤ (runes s).length) (hk : k ≤ (runes s).length) (h : place s j = place s k) : j = k := by
  rcases Nat.lt_trichotomy j k with h1 | h1 | h1
  · have := place_strict s j k hk h1; omega
  · exact h1
  · have := place_strict s k j hj h1; omega
theorem place_le (s : ByteArray) (k : Nat) (hk : k ≤ (runes s).length) : place s k ≤ s.size := by
  have := place_mono s k _ (Nat.le_refl _) hk
  rw [place_end] at this
  exact this
/-- Each byte belongs to a rune. -/
theorem place_find (s : ByteArray) (j : Nat) : ∀ k, k ≤ (runes s).length → j < place s k → ∃ i, i < k ∧ place s i ≤ j ∧ j < place s (i + 1)
  | 0, _, h => by rw [place_zero] at h; omega
  | k + 1, hk, h => by
    by_cases h1 : j < place s k
    · obtain ⟨i, a, b, c⟩ := place_find s j k (by omega) h1
      exact ⟨i, by omega, b, c⟩
    · exact ⟨k, by omega, by omega, h⟩
/-- A byte that is no continuation byte begins a rune. -/
theorem place_at (s : ByteArray) (j : Nat) (hj : j < s.size) (h : (s.get! j).toNat / 64 ≠ 2) : ∃ i, i < (runes s).length ∧ place s i = j := by
  obtain ⟨i, h1, h2, h3⟩ := place_find s j (runes s).length (Nat.le_refl _) (by rw [place_end]; exact hj)
  refine ⟨i, h1, ?_⟩
  obtain ⟨_, _, h6⟩ := place_step s i h1
  rcases Nat.lt_or_ge (place s i) j with h7 | h7
  · exfalso
    refine h ?_
    have := decode_conts s (place s i) (j - place s i) (by omega) (by omega)
    rw [show place s i + (j - place s i) = j by omega] at this
    exact this
  · omega
/-- The last byte of rune k is no continuation byte: it is the rune's only one. -/
theorem place_last (s : ByteArray) (k : Nat) (hk : k < (runes s).length) (h : (s.get! (place s (k + 1) - 1)).toNat / 64 ≠ 2) : place s (k + 1) = place s k + 1 := by
  obtain ⟨_, h2, h3⟩ := place_step s k hk
  have hw := width_pos s (place s k) h2
  rcases Nat.lt_or_ge 1 (Utf8.decode s (place s k)).2 with h7 | h7
  · exfalso
    refine h ?_
    have := decode_conts s (place s k) ((Utf8.decode s (place s k)).2 - 1) (by omega) (by omega)
    rw [show place s k + ((Utf8.decode s (place s k)).2 - 1) = place s (k + 1) - 1 by omega] at this
    exact this
  · omega
/-- What the blanks are as bytes. -/
theorem decodeN_blank (n b0 b1 b2 b3 : Nat) (h : cls ((Lib.decodeN n b0 b1 b2 b3).1 : Int) = 3) :
    (b0 < 128 ∧ (Lib.decodeN n b0 b1 b2 b3) = (b0, 1)) ∨ (b0 = 194 ∧ b1 = 160 ∧ 1 < n ∧ (Lib.decodeN n b0 b1 b2 b3) = (160, 2)) := by
  have hc : ∀ r : Int, cls r = 3 → (9 ≤ r ∧ r ≤ 13) ∨ r = 32 ∨ r = 160 := by
    intro r hr
    unfold cls at hr
    repeat' split at hr
    all_goals first | assumption | omega
  have hb := hc _ h
  clear h hc
  by_cases h0 : b0 < 128
  · exact .inl ⟨h0, by unfold Lib.decodeN; rw [if_pos h0]⟩
  · right
    revert hb
    unfold Lib.decodeN
    rw [if_neg h0]
    split
    · rename_i h1
      split
      · intro hb
        simp only at hb
        refine ⟨by omega, by omega, h1.2.1, ?_⟩
        rw [Prod.mk.injEq]
        exact ⟨by omega, rfl⟩
      · intro hb; simp only at hb; omega
    · repeat' split
      all_goals (intro hb; simp only at hb; omega)
theorem decode_nbsp (s : ByteArray) (p : Nat) (h : p + 1 < s.size) (h0 : (s.get! p).toNat = 194) (h1 : (s.get! (p + 1)).toNat = 160) : Utf8.decode s p = (160, 2) := by
  rw [Lib.decode_at, h0, h1]
  unfold Lib.decodeN
  rw [if_neg (by omega), if_pos ⟨by omega, by omega, by omega⟩, if_pos (by omega)]
theorem cls160 : cls 160 = 3 := by decide
end Go.Proofs.YtbjgfjmknnbahaaGreatDoor

/- Words on what stands between a clue's brackets: sizes and marks. -/
set_option linter.unusedVariables false
set_option linter.unusedSimpArgs false
namespace Go.Proofs.YtbjgfjmknnbahaaGreatDoor
open Go.RowKit

def machEnd (l : List Nat) (mk : ByteArray) (n sm : Nat) : Option (List Nat × ByteArray) :=
  if n < 1 ∨ 24 < n ∨ 24 < sm then none else if sm + n ≤ 24 then some (l ++ [n], mk) else none
/-- Byte by byte, as the document reads the sizes. -/
def mach (s : ByteArray) : Nat → Nat → List Nat → ByteArray → Nat → Nat → Nat → Option (List Nat × ByteArray)
  | 0, _, l, mk, n, _, sm => machEnd l mk n sm
  | f + 1, i, l, mk, n, d, sm =>
    if i < s.size then
      if 48 ≤ (s.get! i).toNat ∧ (s.get! i).toNat ≤ 57 then
        if d = 2 ∨ (d = 1 ∧ n = 0) then none else mach s f (i + 1) l mk (n * 10 + ((s.get! i).toNat - 48)) (d + 1) sm
      else if (n < 1 ∨ 24 < n ∨ 24 < sm) ∨ ((s.get! i).toNat ≠ 44 ∧ (s.get! i).toNat ≠ 45) then none
      else mach s f (i + 1) (l ++ [n]) (mk ++ s.extract i (i + 1)) 0 0 (sm + n)
    else machEnd l mk n sm
def sizesF (s : ByteArray) : Option (List Nat × ByteArray) := mach s s.size 0 [] ByteArray.empty 0 0 0
theorem mach_end (s : ByteArray) (f i : Nat) (l : List Nat) (mk : ByteArray) (n d sm : Nat) (h : ¬ i < s.size) : mach s f i l mk n d sm = machEnd l mk n sm := by
  cases f with
  | zero => rfl
  | succ f => simp [mach, h]
end Go.Proofs.YtbjgfjmknnbahaaGreatDoor

/- Plain Lean: capitals, and capitals without their accents. Printed by wip/gen/gen_plain.py. -/
set_option linter.unusedVariables false
set_option linter.unusedSimpArgs false
namespace Go.Proofs.YtbjgfjmknnbahaaGreatDoor
open Go.RowKit

def upr (r : Int) : Int :=
  if r = 247 ∨ r = 305 then r
  else if r = 255 then 376
  else if r = 962 then 931
  else if (97 ≤ r ∧ r ≤ 122) ∨ (224 ≤ r ∧ r ≤ 254) ∨ (945 ≤ r ∧ r ≤ 969) ∨ (1072 ≤ r ∧ r ≤ 1103) then r - 32
  else if 1104 ≤ r ∧ r ≤ 1119 then r - 80
  else if (256 ≤ r ∧ r ≤ 311) ∨ (330 ≤ r ∧ r ≤ 375) then r - r % 2
  else if (313 ≤ r ∧ r ≤ 328) ∨ (377 ≤ r ∧ r ≤ 382) then r - 1 + r % 2
  else r

theorem upr_upr (r : Int) : upr (upr r) = upr r := by
  unfold upr
  repeat' split
  all_goals omega
theorem upr_bound {r : Int} (h0 : 0 ≤ r) (h1 : r ≤ 1114111) : 0 ≤ upr r ∧ upr r ≤ 1114111 := by
  unfold upr
  repeat' split
  all_goals omega

def plainTab : List (List Int × List UInt8) := [
  ([198], [65, 69]),
  ([338], [79, 69]),
  ([223], [83, 83]),
  ([192, 193, 194, 195, 196, 197, 256, 258, 260], [65]),
  ([199, 262, 264, 266, 268], [67]),
  ([270, 272], [68]),
  ([200, 201, 202, 203, 274, 276, 278, 280, 282], [69]),
  ([284, 286, 288, 290], [71]),
  ([292, 294], [72]),
  ([204, 205, 206, 207, 296, 298, 300, 302, 304], [73]),
  ([308], [74]),
  ([310], [75]),
  ([313, 315, 317, 319, 321], [76]),
  ([209, 323, 325, 327], [78]),
  ([210, 211, 212, 213, 214, 216, 332, 334, 336], [79]),
  ([340, 342, 344], [82]),
  ([346, 348, 350, 352], [83]),
  ([354, 356, 358], [84]),
  ([217, 218, 219, 220, 360, 362, 364, 366, 368, 370], [85]),
  ([372], [87]),
  ([221, 374, 376], [89]),
  ([377, 379, 381], [90])]
def pln (r : Int) : ByteArray := if r < 192 ∨ 381 < r then Utf8.encode r else match plainTab.find? (fun p => p.1.contains r) with | some p => ⟨p.2.toArray⟩ | none => Utf8.encode r
theorem pln_out {r : Int} (h : r < 192 ∨ 381 < r) : pln r = Utf8.encode r := by unfold pln; rw [if_pos h]
def cap_0_0 : List Int := [192, 193, 194, 195, 196, 197, 198, 199]
def cap_0_1 : List Int := [200, 201, 202, 203, 204, 205, 206, 207]
def cap_0_2 : List Int := [208, 209, 210, 211, 212, 213, 214, 215]
def cap_0_3 : List Int := [216]
def cap_1_0 : List Int := [217, 218, 219, 220, 221, 222, 223, 247]
def cap_1_1 : List Int := [256, 258, 260, 262, 264, 266, 268, 270]
def cap_1_2 : List Int := [272, 274, 276, 278, 280, 282, 284, 286]
def cap_1_3 : List Int := [288]
def cap_2_0 : List Int := [290, 292, 294, 296, 298, 300, 302, 304]
def cap_2_1 : List Int := [305, 306, 308, 310, 312, 313, 315, 317]
def cap_2_2 : List Int := [319, 321, 323, 325, 327, 329, 330, 332]
def cap_2_3 : List Int := [334]
def cap_3_0 : List Int := [336, 338, 340, 342, 344, 346, 348, 350]
def cap_3_1 : List Int := [352, 354, 356, 358, 360, 362, 364, 366]
def cap_3_2 : List Int := [368, 370, 372, 374, 376, 377, 379, 381]
def capVals : List Int := cap_0_0 ++ cap_0_1 ++ cap_0_2 ++ cap_0_3 ++ cap_1_0 ++ cap_1_1 ++ cap_1_2 ++ cap_1_3 ++ cap_2_0 ++ cap_2_1 ++ cap_2_2 ++ cap_2_3 ++ cap_3_0 ++ cap_3_1 ++ cap_3_2
/-- The capitals from 192 to 381. -/
theorem capital_cases {r : Int} (h : upr r = r) (h0 : 192 ≤ r) (h1 : r ≤ 381) : r ∈ capVals := by
  have key : ∀ k : Fin 190, upr (192 + (k.val : Int)) = 192 + (k.val : Int) → 192 + (k.val : Int) ∈ capVals := by decide +kernel
  obtain ⟨k, rfl⟩ : ∃ k : Nat, r = 192 + (k : Int) := ⟨(r - 192).toNat, by omega⟩
  exact key ⟨k, by omega⟩ h
end Go.Proofs.YtbjgfjmknnbahaaGreatDoor

/- Plain Lean: what folding gives. -/
set_option linter.unusedVariables false
set_option linter.unusedSimpArgs false
namespace Go.Proofs.YtbjgfjmknnbahaaGreatDoor
open Go.RowKit

def foldStep (pl : Bool) (r : Nat) : ByteArray := if cls r = 1 then (if pl then pln (upr r) else Utf8.encode (upr r)) else ByteArray.empty
def foldL (pl : Bool) : List Nat → ByteArray
  | [] => ByteArray.empty
  | r :: l => foldStep pl r ++ foldL pl l
def foldT (s : ByteArray) (pl : Bool) : ByteArray := foldL pl (runes s)

theorem foldL_append (pl : Bool) (a b : List Nat) : foldL pl (a ++ b) = foldL pl a ++ foldL pl b := by
  induction a with
  | nil => simp [foldL]
  | cons r l ih => simp [foldL, ih, ByteArray.append_assoc]
theorem foldL_snoc (pl : Bool) (a : List Nat) (r : Nat) : foldL pl (a ++ [r]) = foldL pl a ++ foldStep pl r := by
  rw [foldL_append]; simp [foldL]
theorem enc_size (r : Int) : (Utf8.encode r).size ≤ 4 := by
  unfold Utf8.encode
  simp only
  repeat' split
  all_goals (simp [ByteArray.size])
theorem pln_size (r : Int) : (pln r).size ≤ 4 := by
  unfold pln
  split
  · exact enc_size r
  · split
    · rename_i p hp
      have := List.mem_of_find?_eq_some hp
      have key : ∀ q ∈ plainTab, q.2.length ≤ 4 := by decide
      have := key p this
      simpa [ByteArray.size] using this
    · exact enc_size r
theorem foldStep_size (pl : Bool) (r : Nat) : (foldStep pl r).size ≤ 4 := by
  unfold foldStep
  repeat' split
  · exact pln_size _
  · exact enc_size _
  · simp
theorem foldL_size (pl : Bool) (l : List Nat) : (foldL pl l).size ≤ 4 * l.length := by
  induction l with
  | nil => simp [foldL]
  | cons r l ih => have := foldStep_size pl r; simp only [foldL, ByteArray.size_append, List.length_cons]; omega
theorem runes_length (s : ByteArray) : (runes s).length ≤ s.size := by unfold runes; rw [List.length_map]; exact seqs_length s
theorem foldT_size (s : ByteArray) (pl : Bool) : (foldT s pl).size ≤ 4 * s.size := by
  have := foldL_size pl (runes s)
  have := runes_length s
  unfold foldT
  omega
end Go.Proofs.YtbjgfjmknnbahaaGreatDoor

/- Contracts: rebusref01.row, Next: the model's own decoder. -/
set_option linter.unusedVariables false
set_option linter.unusedSimpArgs false
namespace Go.Proofs.YtbjgfjmknnbahaaGreatDoor
open Go.RowKit

set_option maxHeartbeats 4000000 in
set_option maxRecDepth 100000 in
theorem RefRow_is (b x y z : Int) (w : World) (h : (0 ≤ b ∧ b < 128 ∧ x = 1 ∧ y = 0 ∧ z = 0) ∨ (194 ≤ b ∧ b ≤ 223 ∧ x = 2 ∧ y = 128 ∧ z = 191) ∨ (b = 224 ∧ x = 3 ∧ y = 160 ∧ z = 191) ∨ (b = 237 ∧ x = 3 ∧ y = 128 ∧ z = 159)
    ∨ (225 ≤ b ∧ b ≤ 236 ∧ x = 3 ∧ y = 128 ∧ z = 191) ∨ (238 ≤ b ∧ b ≤ 239 ∧ x = 3 ∧ y = 128 ∧ z = 191) ∨ (b = 240 ∧ x = 4 ∧ y = 144 ∧ z = 191) ∨ (241 ≤ b ∧ b ≤ 243 ∧ x = 4 ∧ y = 128 ∧ z = 191) ∨ (b = 244 ∧ x = 4 ∧ y = 128 ∧ z = 143) ∨ (128 ≤ b ∧ b < 194 ∧ x = 0 ∧ y = 0 ∧ z = 0) ∨ (244 < b ∧ b ≤ 255 ∧ x = 0 ∧ y = 0 ∧ z = 0)) :
    Calls Tryz.prog 95 #[.int .u8 b] w fun e w' => e = .returned (.tuple #[.int .i64 x, .int .u8 y, .int .u8 z]) ∧ w = w' := by
  rcases h with ⟨h0, h1, rfl, rfl, rfl⟩ | ⟨h0, h1, rfl, rfl, rfl⟩ | ⟨rfl, rfl, rfl, rfl⟩ | ⟨rfl, rfl, rfl, rfl⟩ | ⟨h0, h1, rfl, rfl, rfl⟩ | ⟨h0, h1, rfl, rfl, rfl⟩ | ⟨rfl, rfl, rfl, rfl⟩ | ⟨h0, h1, rfl, rfl, rfl⟩ | ⟨rfl, rfl, rfl, rfl⟩ | ⟨h0, h1, rfl, rfl, rfl⟩ | ⟨h0, h1, rfl, rfl, rfl⟩
  all_goals (go_enter Tryz.func95, Tryz.ntmps95; go_wp2; go_ret3; exact ⟨rfl, rfl⟩)
theorem tup_of {x y : Int} {q : Nat × Nat} (h : x = q.1 ∧ y = q.2) : Ending.returned (.tuple #[.int .i32 x, .int .i64 y]) = Ending.returned (.tuple #[.int .i32 q.1, .int .i64 q.2]) := by rw [h.1, h.2]

set_option maxHeartbeats 8000000 in
set_option maxRecDepth 100000 in
theorem RefNext_w2 (s : ByteArray) (p : Nat) (w : World) (hs : s.size ≤ 140737488351232) (hp : p < s.size) (B0 B1 B2 B3 lo hi : Nat) (hb0 : ∀ h, (s[p]'h).toNat = B0) (hb1 : ∀ h, (s[p + 1]'h).toNat = B1) (h0 : B0 < 256) (h1 : B1 < 256) (h2 : B2 < 256) (h3 : B3 < 256)
    (hlo : 128 ≤ lo) (hhi : hi ≤ 191) (hr : ∀ W, Calls Tryz.prog 95 #[.int .u8 B0] W fun e w' => e = .returned (.tuple #[.int .i64 2, .int .u8 lo, .int .u8 hi]) ∧ W = w') :
    Calls Tryz.prog 67 #[.string s, .int .i64 p] w fun e w' => e = .returned (.tuple #[.int .i32 (Lib.slowN (s.size - p) B0 B1 B2 B3 2 lo hi).1, .int .i64 (Lib.slowN (s.size - p) B0 B1 B2 B3 2 lo hi).2]) ∧ w = w' := by
  have Hr := Lib.hid hr
  clear hr
  go_enter Tryz.func67, Tryz.ntmps67
  go_wp2_with (go_at_call 95; refine (Hr.out _).mono ?_; rintro e w' ⟨rfl, rfl⟩)
  · go_ret2
    refine ⟨tup_of ?_, rfl⟩
    go_light
    unfold Lib.slowN
    repeat' split
    all_goals omega
  · refine wp_loop_rounds 2 ?_
    rw [rounds_succ]
    go_wp2
    all_goals (try (rw [rounds_succ]; go_wp2))
    all_goals (
      go_ret2
      refine ⟨tup_of ?_, rfl⟩
      go_light
      unfold Lib.slowN
      repeat' split
      all_goals omega)
set_option maxHeartbeats 8000000 in
set_option maxRecDepth 100000 in
theorem RefNext_w3 (s : ByteArray) (p : Nat) (w : World) (hs : s.size ≤ 140737488351232) (hp : p < s.size) (B0 B1 B2 B3 lo hi : Nat) (hb0 : ∀ h, (s[p]'h).toNat = B0) (hb1 : ∀ h, (s[p + 1]'h).toNat = B1) (hb2 : ∀ h, (s[p + 2]'h).toNat = B2) (h0 : B0 < 256) (h1 : B1 < 256) (h2 : B2 < 256) (h3 : B3 < 256)
    (hlo : 128 ≤ lo) (hhi : hi ≤ 191) (hr : ∀ W, Calls Tryz.prog 95 #[.int .u8 B0] W fun e w' => e = .returned (.tuple #[.int .i64 3, .int .u8 lo, .int .u8 hi]) ∧ W = w') :
    Calls Tryz.prog 67 #[.string s, .int .i64 p] w fun e w' => e = .returned (.tuple #[.int .i32 (Lib.slowN (s.size - p) B0 B1 B2 B3 3 lo hi).1, .int .i64 (Lib.slowN (s.size - p) B0 B1 B2 B3 3 lo hi).2]) ∧ w = w' := by
  have Hr := Lib.hid hr
  clear hr
  go_enter Tryz.func67, Tryz.ntmps67
  go_wp2_with (go_at_call 95; refine (Hr.out _).mono ?_; rintro e w' ⟨rfl, rfl⟩)
  · go_ret2
    refine ⟨tup_of ?_, rfl⟩
    go_light
    unfold Lib.slowN
    repeat' split
    all_goals omega
  · refine wp_loop_rounds 3 ?_
    rw [rounds_succ]
    go_wp2
    all_goals (try (rw [rounds_succ]; go_wp2))
    all_goals (try (rw [rounds_succ]; go_wp2))
    all_goals (
      go_ret2
      refine ⟨tup_of ?_, rfl⟩
      go_light
      unfold Lib.slowN
      repeat' split
      all_goals omega)
set_option maxHeartbeats 8000000 in
set_option maxRecDepth 100000 in
theorem RefNext_w4 (s : ByteArray) (p : Nat) (w : World) (hs : s.size ≤ 140737488351232) (hp : p < s.size) (B0 B1 B2 B3 lo hi : Nat) (hb0 : ∀ h, (s[p]'h).toNat = B0) (hb1 : ∀ h, (s[p + 1]'h).toNat = B1) (hb2 : ∀ h, (s[p + 2]'h).toNat = B2) (hb3 : ∀ h, (s[p + 3]'h).toNat = B3) (h0 : B0 < 256) (h1 : B1 < 256) (h2 : B2 < 256) (h3 : B3 < 256)
    (hlo : 128 ≤ lo) (hhi : hi ≤ 191) (hr : ∀ W, Calls Tryz.prog 95 #[.int .u8 B0] W fun e w' => e = .returned (.tuple #[.int .i64 4, .int .u8 lo, .int .u8 hi]) ∧ W = w') :
    Calls Tryz.prog 67 #[.string s, .int .i64 p] w fun e w' => e = .returned (.tuple #[.int .i32 (Lib.slowN (s.size - p) B0 B1 B2 B3 4 lo hi).1, .int .i64 (Lib.slowN (s.size - p) B0 B1 B2 B3 4 lo hi).2]) ∧ w = w' := by
  have Hr := Lib.hid hr
  clear hr
  go_enter Tryz.func67, Tryz.ntmps67
  go_wp2_with (go_at_call 95; refine (Hr.out _).mono ?_; rintro e w' ⟨rfl, rfl⟩)
  · go_ret2
    refine ⟨tup_of ?_, rfl⟩
    go_light
    unfold Lib.slowN
    repeat' split
    all_goals omega
  · refine wp_loop_rounds 4 ?_
    rw [rounds_succ]
    go_wp2
    all_goals (try (rw [rounds_succ]; go_wp2))
    all_goals (try (rw [rounds_succ]; go_wp2))
    all_goals (try (rw [rounds_succ]; go_wp2))
    all_goals (
      go_ret2
      refine ⟨tup_of ?_, rfl⟩
      go_light
      unfold Lib.slowN
      repeat' split
      all_goals omega)

set_option maxHeartbeats 8000000 in
set_option maxRecDepth 100000 in
theorem RefNext_w0 (s : ByteArray) (p : Nat) (w : World) (hs : s.size ≤ 140737488351232) (hp : p < s.size) (B0 : Nat) (hb0 : ∀ h, (s[p]'h).toNat = B0) (h0 : B0 < 256) (q : Nat × Nat) (hq : q = (65533, 1))
    (hr : ∀ W, Calls Tryz.prog 95 #[.int .u8 B0] W fun e w' => e = .returned (.tuple #[.int .i64 0, .int .u8 0, .int .u8 0]) ∧ W = w') :
    Calls Tryz.prog 67 #[.string s, .int .i64 p] w fun e w' => e = .returned (.tuple #[.int .i32 q.1, .int .i64 q.2]) ∧ w = w' := by
  subst hq
  have Hr := Lib.hid hr
  clear hr
  go_enter Tryz.func67, Tryz.ntmps67
  go_wp2_with (go_at_call 95; refine (Hr.out _).mono ?_; rintro e w' ⟨rfl, rfl⟩)
  go_ret2
  exact ⟨rfl, rfl⟩
set_option maxHeartbeats 8000000 in
set_option maxRecDepth 100000 in
theorem RefNext_w1 (s : ByteArray) (p : Nat) (w : World) (hs : s.size ≤ 140737488351232) (hp : p < s.size) (B0 : Nat) (hb0 : ∀ h, (s[p]'h).toNat = B0) (h0 : B0 < 128) (q : Nat × Nat) (hq : q = (B0, 1))
    (hr : ∀ W, Calls Tryz.prog 95 #[.int .u8 B0] W fun e w' => e = .returned (.tuple #[.int .i64 1, .int .u8 0, .int .u8 0]) ∧ W = w') :
    Calls Tryz.prog 67 #[.string s, .int .i64 p] w fun e w' => e = .returned (.tuple #[.int .i32 q.1, .int .i64 q.2]) ∧ w = w' := by
  subst hq
  have Hr := Lib.hid hr
  clear hr
  go_enter Tryz.func67, Tryz.ntmps67
  go_wp2_with (go_at_call 95; refine (Hr.out _).mono ?_; rintro e w' ⟨rfl, rfl⟩)
  refine wp_loop_rounds 1 ?_
  rw [rounds_succ]
  go_wp2
  go_ret2
  exact ⟨rfl, rfl⟩
set_option maxHeartbeats 8000000 in
set_option maxRecDepth 100000 in
theorem RefNext_end (s : ByteArray) (p : Int) (w : World) (hs : s.size ≤ 140737488351232) (hp : p < 0 ∨ (s.size : Int) ≤ p) :
    Calls Tryz.prog 67 #[.string s, .int .i64 p] w fun e w' => e = .returned (.tuple #[.int .i32 0, .int .i64 0]) ∧ w = w' := by
  rcases hp with hp | hp
  all_goals (go_enter Tryz.func67, Tryz.ntmps67; go_wp2_with fail; go_ret2; exact ⟨rfl, rfl⟩)

end Go.Proofs.YtbjgfjmknnbahaaGreatDoor

/- Contracts: rebusref01.Next at a place of the text: the model's own decoder. -/
set_option linter.unusedVariables false
set_option linter.unusedSimpArgs false
namespace Go.Proofs.YtbjgfjmknnbahaaGreatDoor
open Go.RowKit

theorem get_bang (s : ByteArray) (p : Nat) : ∀ h, (s[p]'h).toNat = (s.get! p).toNat := by
  intro h
  rw [ByteArray.get!, getElem!_pos s.data p (by simpa using h)]
  rfl
set_option maxHeartbeats 4000000 in
/-- rebusref01.Next at a place of the text. -/
theorem RefNext_at (s : ByteArray) (p : Nat) (w : World) (hs : s.size ≤ 140737488351232) (hp : p < s.size) :
    Calls Tryz.prog 67 #[.string s, .int .i64 p] w fun e w' => e = .returned (.tuple #[.int .i32 (Utf8.decode s p).1, .int .i64 (Utf8.decode s p).2]) ∧ w = w' := by
  have h0 := (s.get! p).toNat_lt
  have h1 := (s.get! (p + 1)).toNat_lt
  have h2 := (s.get! (p + 2)).toNat_lt
  have h3 := (s.get! (p + 3)).toNat_lt
  have g0 := get_bang s p
  have g1 := get_bang s (p + 1)
  have g2 := get_bang s (p + 2)
  have g3 := get_bang s (p + 3)
  rw [Lib.decode_at]
  generalize (s.get! p).toNat = B0 at *
  generalize (s.get! (p + 1)).toNat = B1 at *
  generalize (s.get! (p + 2)).toNat = B2 at *
  generalize (s.get! (p + 3)).toNat = B3 at *
  have hn : 1 ≤ s.size - p := by omega
  by_cases c1 : B0 < 128
  · have hd : Lib.decodeN (s.size - p) B0 B1 B2 B3 = (B0, 1) := by unfold Lib.decodeN; rw [if_pos c1]
    exact RefNext_w1 s p w hs hp B0 g0 c1 _ hd fun W => RefRow_is (B0 : Int) 1 0 0 W (.inl ⟨by omega, by omega, rfl, rfl, rfl⟩)
  by_cases c2 : B0 < 194 ∨ 244 < B0
  · have hd : Lib.decodeN (s.size - p) B0 B1 B2 B3 = (65533, 1) := by
      unfold Lib.decodeN
      repeat' split
      all_goals first | rfl | (exfalso; omega)
    exact RefNext_w0 s p w hs hp B0 g0 (by omega) _ hd fun W => RefRow_is (B0 : Int) 0 0 0 W (by rcases c2 with c2 | c2; exact .inr (.inr (.inr (.inr (.inr (.inr (.inr (.inr (.inr (.inl ⟨by omega, by omega, rfl, rfl, rfl⟩))))))))); exact .inr (.inr (.inr (.inr (.inr (.inr (.inr (.inr (.inr (.inr ⟨by omega, by omega, rfl, rfl, rfl⟩))))))))))
  by_cases c3 : B0 < 224
  · rw [← Lib.slow_C2 _ B0 B1 B2 B3 hn h1 h2 h3 (by omega)]
    exact RefNext_w2 s p w hs hp B0 B1 B2 B3 128 191 g0 g1 (by omega) h1 h2 h3 (by omega) (by omega) fun W => RefRow_is (B0 : Int) 2 ((128 : Nat) : Int) ((191 : Nat) : Int) W (.inr (.inl ⟨by omega, by omega, rfl, rfl, rfl⟩))
  by_cases c4 : B0 = 224
  · rw [← Lib.slow_E0 _ B0 B1 B2 B3 hn h1 h2 h3 c4]
    exact RefNext_w3 s p w hs hp B0 B1 B2 B3 160 191 g0 g1 g2 (by omega) h1 h2 h3 (by omega) (by omega) fun W => RefRow_is (B0 : Int) 3 ((160 : Nat) : Int) ((191 : Nat) : Int) W (.inr (.inr (.inl ⟨by omega, rfl, rfl, rfl⟩)))
  by_cases c5 : B0 = 237
  · rw [← Lib.slow_ED _ B0 B1 B2 B3 hn h1 h2 h3 c5]
    exact RefNext_w3 s p w hs hp B0 B1 B2 B3 128 159 g0 g1 g2 (by omega) h1 h2 h3 (by omega) (by omega) fun W => RefRow_is (B0 : Int) 3 ((128 : Nat) : Int) ((159 : Nat) : Int) W (.inr (.inr (.inr (.inl ⟨by omega, rfl, rfl, rfl⟩))))
  by_cases c6 : B0 < 240
  · rw [← Lib.slow_E1 _ B0 B1 B2 B3 hn h1 h2 h3 (by omega)]
    exact RefNext_w3 s p w hs hp B0 B1 B2 B3 128 191 g0 g1 g2 (by omega) h1 h2 h3 (by omega) (by omega) fun W => RefRow_is (B0 : Int) 3 ((128 : Nat) : Int) ((191 : Nat) : Int) W (by by_cases c : B0 < 237; exact .inr (.inr (.inr (.inr (.inl ⟨by omega, by omega, rfl, rfl, rfl⟩)))); exact .inr (.inr (.inr (.inr (.inr (.inl ⟨by omega, by omega, rfl, rfl, rfl⟩))))))
  by_cases c7 : B0 = 240
  · rw [← Lib.slow_F0 _ B0 B1 B2 B3 hn h1 h2 h3 c7]
    exact RefNext_w4 s p w hs hp B0 B1 B2 B3 144 191 g0 g1 g2 g3 (by omega) h1 h2 h3 (by omega) (by omega) fun W => RefRow_is (B0 : Int) 4 ((144 : Nat) : Int) ((191 : Nat) : Int) W (.inr (.inr (.inr (.inr (.inr (.inr (.inl ⟨by omega, rfl, rfl, rfl⟩)))))))
  by_cases c8 : B0 < 244
  · rw [← Lib.slow_F1 _ B0 B1 B2 B3 hn h1 h2 h3 (by omega)]
    exact RefNext_w4 s p w hs hp B0 B1 B2 B3 128 191 g0 g1 g2 g3 (by omega) h1 h2 h3 (by omega) (by omega) fun W => RefRow_is (B0 : Int) 4 ((128 : Nat) : Int) ((191 : Nat) : Int) W (.inr (.inr (.inr (.inr (.inr (.inr (.inr (.inl ⟨by omega, by omega, rfl, rfl, rfl⟩))))))))
  · rw [← Lib.slow_F4 _ B0 B1 B2 B3 hn h1 h2 h3 (by omega)]
    exact RefNext_w4 s p w hs hp B0 B1 B2 B3 128 143 g0 g1 g2 g3 (by omega) h1 h2 h3 (by omega) (by omega) fun W => RefRow_is (B0 : Int) 4 ((128 : Nat) : Int) ((143 : Nat) : Int) W (.inr (.inr (.inr (.inr (.inr (.inr (.inr (.inr (.inl ⟨by omega, rfl, rfl, rfl⟩)))))))))
end Go.Proofs.YtbjgfjmknnbahaaGreatDoor
