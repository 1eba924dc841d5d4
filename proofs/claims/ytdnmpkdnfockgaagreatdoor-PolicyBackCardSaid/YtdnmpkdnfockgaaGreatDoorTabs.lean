/-
  What the row's listed variables give: Env of the world in which the call begins; the witness.
-/
import Derived.Test.YtdnmpkdnfockgaaGreatDoorLibsP
import Derived.Test.YtdnmpkdnfockgaaGreatDoorMoreT
import Derived.Test.YtdnmpkdnfockgaaGreatDoorRows
import Derived.Lib.LaidIn
import Derived.Lib.LaidU8T
import Derived.Deep.DeepHandedRow
import Derived.Deep.DeepWitnessRowRef
import Derived.Deep.Slices
import Derived.Deep.Strs
import Derived.Lib.SmallJoins
import Derived.ProofKit
import Derived.Carry
import Derived.SizedLaws
import Derived.MakeChecks
import Derived.ChangeArms
import Derived.OpenShut
namespace Go.Proofs.YtdnmpkdnfockgaaGreatDoor
open Go.ChangeShapes Go.WideShapes Go.ChangeAt Go.RowKit Go.Lib Go.Shelf

def laids : List (String × DataW Unit) := [("math/bits.deBruijn32tab", Rows.laid_math_bits_deBruijn32tab), ("math/bits.deBruijn64tab", Rows.laid_math_bits_deBruijn64tab), ("internal/strconv.uint64pow10", Rows.laid_internal_strconv_uint64pow10), ("unicode/utf8.acceptRanges", Rows.laid_unicode_utf8_acceptRanges), ("unicode/utf8.first", Rows.laid_unicode_utf8_first)]
theorem pow_data : (Rows.laid_internal_strconv_uint64pow10 : DataW Unit) = tabData .u64 pow10Tab := by kernel_rfl
theorem accept_data : (Rows.laid_unicode_utf8_acceptRanges : DataW Unit) = acceptData := by kernel_rfl
theorem first_data : Rows.laid_unicode_utf8_first = firstData := by kernel_rfl

theorem env_of {W : World} (hL0 : laidMetH Tryz.prog laids W) (hS : W.ShapedOpen Tryz.prog) : Env W := by
  have hL : laidMet Tryz.prog laids W := by
    rw [MakeChecks.laidMetH_plain _ _ _ (by kernel_rfl)] at hL0
    exact hL0
  have h1 : VarReads Tryz.prog W "unicode/utf8.first" firstData := by
    rw [← first_data]; exact laidMet.reads hL (by simp [laids])
  have h2 : VarReads Tryz.prog W "unicode/utf8.acceptRanges" acceptData := by
    rw [← accept_data]; exact laidMet.reads hL (by simp [laids])
  have h3 : VarReads Tryz.prog W "internal/strconv.uint64pow10" (tabData .u64 pow10Tab) := by
    rw [← pow_data]; exact laidMet.reads hL (by simp [laids])
  refine ⟨?_, ?_, ?_⟩
  · exact utf8Tabs_of_readsT (U8Types.of196 Tryz.laysValid) ⟨by kernel_rfl, by kernel_rfl, by kernel_rfl, by kernel_rfl, by kernel_rfl, by kernel_rfl, by kernel_rfl⟩ h1 h2
  · exact Tryz.laysM143.s1_3 W hS
  · obtain ⟨g, t, cs, fuel, p, hg, ht, hv, hd⟩ := h3
    have hg' : Tryz.prog.globalNamed "internal/strconv.uint64pow10" = some 3 := by kernel_rfl
    obtain rfl := Option.some.inj (hg'.symm.trans hg)
    have ht' : (Tryz.prog.globals[3]?).map (·.type) = some 162 := by kernel_rfl
    obtain rfl := Option.some.inj (ht'.symm.trans ht)
    have h := cells_of_tab Tryz.underlying162 Tryz.underlying27 (by kernel_rfl) (by kernel_rfl) hd
    unfold TabIs
    rw [hv, ← h]

/-! ### The witness: the settled world, the five variables holding what their initialisers lay -/
def litsOf : DataW Unit → Array Value
  | .agg l => (l.map fun | .lit (.int k n) => Value.int k n | _ => .bool false).toArray
  | _ => #[]
noncomputable def laidWorld (os : Os) : World :=
  let w0 := World.holding Tryz.prog os ⟨#[], #[], []⟩
  let put (h : Array Obj) (g : Nat) (cs : Array Value) : Array Obj := h.modify g fun
    | .cells _ t frozen => .cells cs t frozen
    | o => o
  let h1 := put w0.heap 1 (firstTab.map fun z => Value.int .u8 z).toArray
  let h2 := put h1 2 ((List.range 16).flatMap fun i => [Value.int .u8 (accLo i), Value.int .u8 (accHi i)]).toArray
  let h3 := put h2 3 (pow10Tab.map fun z => Value.int .u64 z).toArray
  let h4 := put h3 4 (litsOf Rows.laid_math_bits_deBruijn32tab)
  let h5 := put h4 5 (litsOf Rows.laid_math_bits_deBruijn64tab)
  { w0 with heap := h5 }
set_option maxRecDepth 100000 in
theorem laid_met (os : Os) (args : Array Value) : laidMet Tryz.prog laids ((laidWorld os).forCall (fun _ _ => 0) ⟨#[], args, []⟩).memory := by
  have h := (LaidIn.of_run (P := Tryz.prog) (w := ((laidWorld os).forCall (fun _ _ => 0) ⟨#[], args, []⟩).memory) (l := [("math/bits.deBruijn32tab", Rows.laid_math_bits_deBruijn32tab), ("math/bits.deBruijn64tab", Rows.laid_math_bits_deBruijn64tab), ("internal/strconv.uint64pow10", Rows.laid_internal_strconv_uint64pow10), ("unicode/utf8.acceptRanges", Rows.laid_unicode_utf8_acceptRanges), ("unicode/utf8.first", firstData)]) [4, 5, 3, 2, 1] 8 (by kernel_rfl) (by kernel_rfl) (by kernel_rfl) (by kernel_rfl)).met
  rw [← first_data] at h
  exact h

/-! ### A slice of nodes -/
instance : Inhabited Nd := ⟨⟨0, false, 0⟩⟩
theorem list3 {α : Type} {l : List α} (h : l.length = 3) : ∃ a b c, l = [a, b, c] := by
  match l, h with
  | [a, b, c], _ => exact ⟨a, b, c, rfl⟩
set_option maxRecDepth 10000 in
theorem node_at {H : Type} {enc : TypeId × Value → H} {W : World} {base : Nat} {sp : Nat → Bool} {held : Bool} {n : Nat} {cs : List Value} {x : DataW H × List MemPlace} (h : DataW.trod enc Tryz.prog W base sp held n 62 cs = some x) :
    ∃ y : Nd, cs = y.enc ∧ y.timed := by
  obtain ⟨y0, y1, y2, m, _, hl, h0, h1, h2⟩ := Go.Deep.trod_struct3 Tryz.underlying62 h
  have hl3 : cs.length = 3 := hl.trans (by kernel_rfl)
  obtain ⟨c0, c1, c2, rfl⟩ := list3 hl3
  have k0 : Tryz.prog.cellsOf 27 = 1 := by kernel_rfl
  have k1 : Tryz.prog.cellsOf 4 = 1 := by kernel_rfl
  have k2 : Tryz.prog.cellsOf 3 = 1 := by kernel_rfl
  obtain ⟨t, e0, _, wt⟩ := DataW.trod_int Tryz.underlying27 h0
  obtain ⟨p, e1, _⟩ := DataW.trod_bool Tryz.underlying4 h1
  obtain ⟨o, e2, _, _⟩ := DataW.trod_int Tryz.underlying3 h2
  have f0 : [c0] = [Value.int .u64 t] := by rw [← e0]; dsimp only; rw [k0]; rfl
  have f1 : [c1] = [Value.bool p] := by rw [← e1]; dsimp only; rw [k1]; rfl
  have f2 : [c2] = [Value.int .i64 o] := by rw [← e2]; dsimp only; rw [k2]; rfl
  injection f0 with f0 _
  injection f1 with f1 _
  injection f2 with f2 _
  subst f0 f1 f2
  refine ⟨⟨t, p, o⟩, rfl, ?_⟩
  have hb := Go.bounds_u64 wt
  exact ⟨hb.1, by show t / 86400 ≤ 213503982334601; omega⟩
/-- A slice of nodes that came in, as the walk wants it. -/
theorem nodes_in {H : Type} {enc : TypeId × Value → H} {W : World} {held : Bool} {v : Value} {d : DataW H} {p : List MemPlace} (ho : ∃ a n c, v = .slice a n c) (h : DataW.Trod enc Tryz.prog W 0 (fun _ => true) held 24 v d p) :
    ∃ (a : Option Addr) (c : Nat) (l : List Nd), v = .slice a l.length c ∧ Sl Nd.enc 3 W a l ∧ l.length ≤ 9223372036854775807 ∧ ∀ x ∈ l, x.timed := by
  obtain ⟨a, n, c, rfl⟩ := ho
  obtain ⟨fuel, hf⟩ := h
  rcases Go.Deep.open_slice Tryz.underlying24 hf with ⟨hcs, _⟩ | ⟨a', len, cap, m, k, D, Pl, hcs, _, hlc, hcm, hm, _, hx⟩
  · simp [Value.cells] at hcs
    obtain ⟨rfl, rfl, rfl⟩ := hcs
    exact ⟨_, 0, [], rfl, Sl.nil _, by simp, fun x hx => by cases hx⟩
  · simp [Value.cells] at hcs
    obtain ⟨rfl, rfl, rfl⟩ := hcs
    have k3 : Tryz.prog.cellsOf 62 = 3 := by kernel_rfl
    have hmm : n ≤ m := by rw [hm]; simp; exact hlc
    have hy : ∀ i, i < n → ∃ y : Nd, y.timed ∧ W.cells? 0 (a'.add (i * 3)) 3 = some y.enc := by
      intro i hi
      obtain ⟨cs', h1, h2⟩ := hx i (by omega)
      obtain ⟨y, rfl, hy⟩ := node_at h2
      rw [k3] at h1
      exact ⟨y, hy, h1⟩
    obtain ⟨Y, hY⟩ := Go.Deep.choose_lt hy
    refine ⟨some a', c, (List.range n).map Y, by simp, ?_, by simp; unfold maxLen at hcm; omega, ?_⟩
    · by_cases h0 : n = 0
      · subst h0; exact Sl.nil _
      · refine .inr ⟨a', rfl, ?_, ?_⟩
        · have := (hY 0 (by omega)).2
          have h3 := (World.cells?_some this).2.2 0 (by omega)
          have h4 := World.block_lt_of_cell? W _ h3
          rwa [add_block, add_block] at h4
        · intro i x hx j u hu
          have hi : i < n := by
            rcases Nat.lt_or_ge i n with h | h
            · exact h
            · rw [List.getElem?_eq_none (by simp; omega)] at hx; cases hx
          have hxe : Y i = x := by simpa [List.getElem?_map, List.getElem?_range hi] using hx
          subst hxe
          have hj : j < 3 := by
            rcases Nat.lt_or_ge j 3 with h | h
            · exact h
            · rw [List.getElem?_eq_none (by rw [Nd.enc_len]; exact h)] at hu; cases hu
          rw [← add_add', (World.cells?_some (hY i hi).2).2.2 j hj]
          exact hu
    · intro x hx
      obtain ⟨i, hi, rfl⟩ := List.mem_map.1 hx
      exact (hY i (List.mem_range.1 hi)).1
end Go.Proofs.YtdnmpkdnfockgaaGreatDoor
