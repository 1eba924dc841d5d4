/-
  What the label functions come to: Count, First, Fold.
-/
import Derived.Test.YtdnmpkdnfockgaaGreatDoorProg
import Derived.Test.YtdnmpkdnfockgaaGreatDoorWords
import Derived.Lib.RuneCount
import Derived.Lib.ConvBytes
namespace Go.Proofs.YtdnmpkdnfockgaaGreatDoor
open Go.RowKit

theorem Ext.iter {w w' : World} (h : Ext w w') (s : ByteArray) (pos : Nat) : Ext w (w'.iter s pos) := h.alloc _

set_option maxHeartbeats 1000000 in
theorem count_any (s : ByteArray) (w : World) (hs : s.size < 9223372036854775807) :
    Calls Tryz.prog 72 #[.string s] w fun e w' => e = .returned (.int .i64 (Lib.runeCount s)) ∧ Ext w w' := by
  go_enter Tryz.func72, Tryz.ntmps72
  go_wp2
  go_loopw [3] (fun n w' => ∃ (pos b acc : Nat), w' = w.iter s pos ∧ n = .int .i64 acc ∧ Hid (acc + Lib.runeCountFrom s b pos = Lib.runeCount s) ∧ s.size ≤ pos + b ∧ acc ≤ pos) (fun _ w' => s.size - w'.iterPos w.heap.size)
  case atStart => exact ⟨0, s.size, 0, rfl, rfl, by show 0 + Lib.runeCountFrom s s.size 0 = _; simp [Lib.runeCount], by omega, Nat.le_refl _⟩
  case round =>
    obtain ⟨pos, b, acc, rfl, rfl, hc, hb, ha⟩ := hrel
    by_cases hp : pos < s.size
    · have hnx : ∀ ty, (Instr.next (.pointer (some ⟨w.heap.size, 0, none⟩)) true ty).run Tryz.prog (w.iter s pos) = _ := fun ty => run_next_any w s pos ty hp
      have hwd := Lib.decode_width_pos s pos hp
      go_wp2
      go_roundw
      case rel =>
        cases b with
        | zero => omega
        | succ b =>
          refine ⟨pos + (Utf8.decode s pos).2, b, acc + 1, rfl, by go_num, ?_, by omega, by omega⟩
          have hc := hc.out
          show _ = _
          rw [← hc]
          simp [Lib.runeCountFrom, hp]
          omega
      case measure =>
        simp
        omega
    · have hnx : ∀ ty, (Instr.next (.pointer (some ⟨w.heap.size, 0, none⟩)) true ty).run Tryz.prog (w.iter s pos) = _ := fun ty => run_next_end w s pos ty hp
      go_wp2
      go_ret
      have hc := hc.out
      rw [Lib.runeCountFrom_end s b pos hp, Nat.add_zero] at hc
      subst hc
      exact ⟨rfl, (Ext.refl w).iter s pos⟩

/-- The bytes as cells. -/
def byteAt (s : ByteArray) (j : Nat) : Int := ((s.data.toList.getD j 0).toNat : Int)
def foldC (c : Int) : Int := if 65 ≤ c ∧ c ≤ 90 then bits .or .u8 c 32 else c
theorem byteAt_lo (s : ByteArray) (j : Nat) : 0 ≤ byteAt s j ∧ byteAt s j ≤ 255 := by
  unfold byteAt
  have := (s.data.toList.getD j 0).toNat_lt
  omega

def bytesI (s : ByteArray) : List Int := (List.range s.size).map (byteAt s)
def foldS (s : ByteArray) : ByteArray := strOfNums ((bytesI s).map foldC)
theorem bits_fold (c : Int) (h0 : 65 ≤ c) (h1 : c ≤ 90) : bits .or .u8 c 32 = foldC c := by
  unfold foldC; rw [if_pos ⟨h0, h1⟩]

def Row8 (w : World) (g n : Nat) (f : Nat → Int) : Prop := ∀ j, j < n → w.cell? ⟨g, j, none⟩ = some (.int .u8 (f j)) ∧ w.frozen? ⟨g, j, none⟩ = false
theorem Row8.set {w : World} {g n : Nat} {f : Nat → Int} (h : Row8 w g n f) {k : Nat} (hk : k < n) (c : Int) (f' : Nat → Int) (hf : ∀ j, j < n → f' j = if j = k then c else f j) : Row8 (w.setCell ⟨g, k, none⟩ (.int .u8 c)) g n f' := by
  intro j hj
  rw [hf j hj, World.frozen?_setCell]
  by_cases e : j = k
  · subst e
    rw [if_pos rfl]
    exact ⟨World.cell?_setCell_same _ _ _ (h j hj).1, (h j hj).2⟩
  · rw [if_neg e, World.cell?_setCell_other _ _ _ _ (fun h => e (by injection h with _ h; exact h.symm))]
    exact h j hj
theorem Row8.congr {w : World} {g n : Nat} {f f' : Nat → Int} (h : Row8 w g n f) (hf : ∀ j, j < n → f' j = f j) : Row8 w g n f' := fun j hj => by rw [hf j hj]; exact h j hj

theorem bytesWorld_row (w : World) (e : TypeId) (s : ByteArray) : Row8 (Lib.bytesWorld w e s) w.heap.size s.size (byteAt s) := by
  intro j hj
  refine ⟨Lib.bytesWorld_cell w e s j hj, ?_⟩
  have h := Lib.bytesWorld_at_new w e s
  have hs : s.size ≤ (Lib.bytesCells w e s).size := by
    simp [Lib.bytesCells]
  simp only [World.frozen?, h]
  simp
  omega
theorem Ext.bytes {w w' : World} (h : Ext w w') (e : TypeId) (s : ByteArray) : Ext w (Lib.bytesWorld w' e s) :=
  h.trans ⟨rfl, rfl, rfl, by rw [Lib.bytesWorld_size]; omega, fun i hi => Lib.bytesWorld_at_old w' e s i hi⟩

set_option maxHeartbeats 1000000 in
theorem fold_any (s : ByteArray) (w : World) (hs : s.size ≤ 65536) :
    Calls Tryz.prog 40 #[.string s] w fun e w' => e = .returned (.string (foldS s)) ∧ Ext w w' := by
  have kb := fun W => Lib.run_convert_string_bytes (P := Tryz.prog) W 9 103 5 s Tryz.underlying9 Tryz.underlying103 Tryz.underlying5
  go_enter Tryz.func40, Tryz.ntmps40
  go_wp2
  go_loopw [10] (fun v10 wr => ∃ (k : Nat), k ≤ s.size ∧ v10 = .int .i64 k ∧ Row8 wr w.heap.size s.size (fun j => if j < k then foldC (byteAt s j) else byteAt s j) ∧ Hid (Ext w wr)) (fun v10 _ => s.size - (intOf v10).toNat)
  case atStart => exact ⟨0, Nat.zero_le _, rfl, (bytesWorld_row w _ s).congr (fun j _ => if_neg (Nat.not_lt_zero j)), (Ext.refl w).bytes _ s⟩
  case round =>
    obtain ⟨k, hk, rfl, HC, HE⟩ := hrel
    by_cases hlt : k < s.size
    · obtain ⟨hc, hf⟩ := HC k hlt
      simp only [if_neg (Nat.lt_irrefl k)] at hc
      have hb := byteAt_lo s k
      obtain ⟨c, hcc⟩ : ∃ c, byteAt s k = c := ⟨_, rfl⟩
      rw [hcc] at hb hc
      have HCC := Lib.hid hcc
      clear hcc
      obtain ⟨hb0, hb1⟩ := hb
      have hstep : ∀ d, d = foldC c → ∀ j, j < s.size → (if j < k + 1 then foldC (byteAt s j) else byteAt s j) = if j = k then d else if j < k then foldC (byteAt s j) else byteAt s j := by
        intro d hd j _
        by_cases e : j = k
        · subst e; rw [if_pos (by omega), if_pos rfl, HCC.out, hd]
        · rw [if_neg e]
          by_cases e2 : j < k
          · rw [if_pos (by omega), if_pos e2]
          · rw [if_neg (by omega), if_neg e2]
      have HS := Lib.hid hstep
      clear hstep
      go_wp2
      all_goals go_roundw
      all_goals try (case measure => simp [intOf]; omega)
      · have h0 : 65 ≤ c := by assumption
        have h1 : c ≤ 90 := by assumption
        exact ⟨k + 1, by omega, by go_num, HC.set hlt _ _ (HS.out _ (bits_fold c h0 h1)), HE.out.setCell (Nat.le_refl _) _⟩
      · have h1 : 90 < c := by assumption
        exact ⟨k + 1, by omega, by go_num, HC.congr (fun j hj => (HS.out c (by unfold foldC; rw [if_neg (by omega)]) j hj).trans (by by_cases e : j = k <;> simp [e, HCC.out])), HE⟩
      · have h1 : ¬ 65 ≤ c := by assumption
        exact ⟨k + 1, by omega, by go_num, HC.congr (fun j hj => (HS.out c (by unfold foldC; rw [if_neg (by omega)]) j hj).trans (by by_cases e : j = k <;> simp [e, HCC.out])), HE⟩
    · obtain rfl : k = s.size := by omega
      have hl : ((bytesI s).map foldC).length = s.size := by simp [bytesI]
      have ks := run_convert_bytes_arg (P := Tryz.prog) wr 103 5 Tryz.underlying103 Tryz.underlying5 w.heap.size 0 s.size (grownCap w s.size 0 5) _ hl (fun i hi => by
        rw [Nat.zero_add]
        refine (HC i hi).1.trans ?_
        simp only [if_pos hi]
        simp [bytesI, List.getD_eq_getElem?_getD, hi]) 9 Tryz.underlying9
      clear hl
      have hfs : strOfNums ((bytesI s).map foldC) = foldS s := rfl
      rw [hfs] at ks
      clear hfs
      go_wp2
      go_ret
      exact ⟨rfl, HE.out⟩

/-- The first rune of s, as a text. -/
def first1 (s : ByteArray) : ByteArray := if (Utf8.decode s 0).2 < s.size then s.extract 0 (Utf8.decode s 0).2 else s

set_option maxHeartbeats 1000000 in
theorem first_any (s : ByteArray) (w : World) (hs : s.size ≤ 65536) :
    Calls Tryz.prog 41 #[.string s, .int .i64 1] w fun e w' => e = .returned (.string (first1 s)) ∧ Ext w w' := by
  have hmax : ∀ pos, pos < s.size → 1 ≤ (Utf8.decode s pos).2 := fun pos hp => Lib.decode_width_pos s pos hp
  have HM := Lib.hid hmax
  clear hmax
  go_enter Tryz.func41, Tryz.ntmps41
  go_wp2
  go_loopw [1] (fun n w' => ∃ (pos : Nat) (m : Int), w' = w.iter s pos ∧ n = .int .i64 m ∧ Hid ((pos = 0 ∧ m = 1) ∨ (pos = (Utf8.decode s 0).2 ∧ m = 0 ∧ 0 < s.size))) (fun _ w' => s.size - w'.iterPos w.heap.size)
  case atStart => exact ⟨0, 1, rfl, rfl, .inl ⟨rfl, rfl⟩⟩
  case round =>
    obtain ⟨pos, m, rfl, rfl, hc⟩ := hrel
    by_cases hp : pos < s.size
    · have hnx : ∀ ty, (Instr.next (.pointer (some ⟨w.heap.size, 0, none⟩)) true ty).run Tryz.prog (w.iter s pos) = _ := fun ty => run_next_any w s pos ty hp
      have hwd := HM.out pos hp
      rcases hc.out with ⟨h0, h1⟩ | ⟨h0, h1, h2⟩
      · have H0 := Lib.hid h0
        clear h0
        subst h1
        go_wp2
        refine ⟨⟨_, 0, rfl, rfl, .inr ⟨?_, rfl, by omega⟩⟩, by simp; omega⟩
        have := H0.out
        subst this
        omega
      · have H0 := Lib.hid h0
        clear h0
        subst h1
        go_wp2
        go_ret
        refine ⟨ret_str ?_, (Ext.refl w).iter s _⟩
        unfold first1
        rw [← H0.out, if_pos hp]
    · have hnx : ∀ ty, (Instr.next (.pointer (some ⟨w.heap.size, 0, none⟩)) true ty).run Tryz.prog (w.iter s pos) = _ := fun ty => run_next_end w s pos ty hp
      go_wp2
      go_ret
      refine ⟨ret_str ?_, (Ext.refl w).iter s pos⟩
      unfold first1
      rw [if_neg]
      rcases hc.out with ⟨h0, h1⟩ | ⟨h0, h1, h2⟩
      · have h3 : s.size = 0 := by omega
        rw [h3]
        omega
      · omega
end Go.Proofs.YtdnmpkdnfockgaaGreatDoor
