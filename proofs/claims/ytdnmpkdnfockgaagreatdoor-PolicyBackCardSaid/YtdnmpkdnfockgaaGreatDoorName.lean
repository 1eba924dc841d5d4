/-
  What label.Right comes to: whether a text may be a name.
-/
import Derived.Test.YtdnmpkdnfockgaaGreatDoorLabel
import Derived.Lib.ValidU
import Derived.Shelf.Unicode.DecodeSlow
namespace Go.Proofs.YtdnmpkdnfockgaaGreatDoor
open Go.RowKit

/-- The two tables of unicode/utf8, as their initialisers lay them. -/
def Tabs (w : World) : Prop := Lib.Utf8Tabs 1 2 w
theorem Tabs.ext {w w' : World} (h : Tabs w) (he : Ext w w') : Tabs w' := ⟨fun c hc => he.cellv (h.1 c hc), fun i hi => ⟨he.cellv (h.2 i hi).1, he.cellv (h.2 i hi).2⟩⟩
/-- What is asked of utf8.ValidString (the shelf's contract). -/
def ValidC : Prop := ∀ (s : ByteArray) (w : World), s.size ≤ 9223372036854775807 → Tabs w → Calls Tryz.prog 104 #[.string s] w fun e w' => e = .returned (.bool (Lib.validD s.data.toList)) ∧ Ext w w'

def okFrom (s : ByteArray) : Nat → Nat → Bool
  | 0, _ => true
  | f + 1, pos => if pos < s.size then (if (Utf8.decode s pos).1 < 32 ∨ (Utf8.decode s pos).1 = 127 then false else okFrom s f (pos + (Utf8.decode s pos).2)) else true
def restOk (s : ByteArray) : Bool := Lib.validD s.data.toList && (decide (0 < s.size) && (decide (Lib.runeCount s ≤ 24) && (decide (byteAt s 0 ≠ 32) && decide (byteAt s (s.size - 1) ≠ 32))))
def nameOk (s : ByteArray) : Bool := okFrom s s.size 0 && restOk s
theorem toList_isEmpty (s : ByteArray) : s.toList.isEmpty = true ↔ s.size = 0 := by
  rw [List.isEmpty_iff, Lib.toList_data]
  constructor
  · intro h
    have : s.data.toList.length = 0 := by rw [h]; rfl
    rw [Array.length_toList] at this
    exact this
  · intro h
    refine List.eq_nil_of_length_eq_zero ?_
    rw [Array.length_toList]
    exact h
theorem isEmpty_of {s : ByteArray} (h : s.size = 0) : s.toList.isEmpty = true := (toList_isEmpty s).2 h
theorem isEmpty_not {s : ByteArray} (h : 0 < s.size) : s.toList.isEmpty = false := by
  cases hb : s.toList.isEmpty with
  | false => rfl
  | true => have := (toList_isEmpty s).1 hb; omega
theorem byteAt_get (s : ByteArray) {j : Nat} (h : j < s.size) : byteAt s j = ((s[j]'h).toNat : Int) := by
  unfold byteAt
  have h' : j < s.data.toList.length := by rw [Array.length_toList]; exact h
  rw [List.getD_eq_getElem?_getD, List.getElem?_eq_getElem h']
  rfl
theorem rest_cases (s : ByteArray) : (Lib.validD s.data.toList = false ∧ restOk s = false) ∨ (Lib.validD s.data.toList = true ∧ s.size = 0 ∧ restOk s = false) ∨
    (Lib.validD s.data.toList = true ∧ 0 < s.size ∧ 24 < Lib.runeCount s ∧ restOk s = false) ∨
    (Lib.validD s.data.toList = true ∧ 0 < s.size ∧ Lib.runeCount s ≤ 24 ∧ restOk s = (decide (byteAt s 0 ≠ 32) && decide (byteAt s (s.size - 1) ≠ 32))) := by
  unfold restOk
  cases hv : Lib.validD s.data.toList
  · simp
  · by_cases h0 : 0 < s.size
    · by_cases h1 : Lib.runeCount s ≤ 24
      · simp [h0, h1]
      · have : 24 < Lib.runeCount s := by omega
        simp [h0, h1, this]
    · have : s.size = 0 := by omega
      simp [this]
theorem okFrom_end (s : ByteArray) (f pos : Nat) (h : ¬ pos < s.size) : okFrom s f pos = true := by cases f <;> simp [okFrom, h]

set_option maxHeartbeats 400000 in
theorem valid_any (HV : ValidC) (s : ByteArray) (w : World) (hs : s.size ≤ 65536) (ht : Tabs w) :
    Calls Tryz.prog 71 #[.string s] w fun e w' => e = .returned (.bool (Lib.validD s.data.toList)) ∧ Ext w w' := by
  have H := Lib.hid (HV s w (by omega) ht)
  clear HV ht
  generalize Lib.validD s.data.toList = v at *
  go_enter Tryz.func71, Tryz.ntmps71
  go_wp2_with (go_at_call 104; refine H.out.mono ?_; rintro e w' ⟨rfl, hx⟩)
  go_ret
  exact ⟨rfl, hx⟩

set_option maxHeartbeats 1000000 in
theorem nameRight_any (HV : ValidC) (s : ByteArray) (w : World) (hs : s.size ≤ 65536) (ht : Tabs w) :
    Calls Tryz.prog 54 #[.string s] w fun e w' => e = .returned (.bool (nameOk s)) ∧ Ext w w' := by
  have HT := Lib.hid ht
  have HVV := Lib.hid HV
  clear ht HV
  go_enter Tryz.func54, Tryz.ntmps54
  go_wp2
  go_loopw [] (fun w' => ∃ (pos b : Nat), w' = w.iter s pos ∧ Hid (okFrom s b pos = okFrom s s.size 0) ∧ s.size ≤ pos + b) (fun w' => s.size - w'.iterPos w.heap.size)
  case atStart => exact ⟨0, s.size, rfl, rfl, by omega⟩
  case round =>
    obtain ⟨pos, b, rfl, hc, hb⟩ := hrel
    by_cases hp : pos < s.size
    · have hnx : ∀ ty, (Instr.next (.pointer (some ⟨w.heap.size, 0, none⟩)) true ty).run Tryz.prog (w.iter s pos) = _ := fun ty => run_next_any w s pos ty hp
      have hwd := Lib.decode_width_pos s pos hp
      obtain ⟨b, rfl⟩ : ∃ m, b = m + 1 := ⟨b - 1, by omega⟩
      have hst : okFrom s (b + 1) pos = if (Utf8.decode s pos).1 < 32 ∨ (Utf8.decode s pos).1 = 127 then false else okFrom s b (pos + (Utf8.decode s pos).2) := by
        show (if pos < s.size then _ else _) = _
        rw [if_pos hp]
      rw [hc.out] at hst
      have HST := Lib.hid hst
      clear hst
      go_wp2
      · have h1 : ¬ ((Utf8.decode s pos).1 : Int) < 32 := by omega
        have h2 : ((Utf8.decode s pos).1 : Int) < 32 ∨ (((Utf8.decode s pos).1 : Int) == 127) = true := by assumption
        have h3 : (((Utf8.decode s pos).1 : Int) = 127) := beq_iff_eq.1 (h2.resolve_left h1)
        go_ret
        refine ⟨ret_bool ?_, (Ext.refl w).iter s _⟩
        unfold nameOk
        rw [HST.out, if_pos (.inr (by omega)), Bool.false_and]
      · have h2 : 32 ≤ ((Utf8.decode s pos).1 : Int) ∧ (((Utf8.decode s pos).1 : Int) == 127) = false := by assumption
        have h3 := beq_eq_false_iff_ne.1 h2.2
        refine ⟨⟨_, b, rfl, ?_, by omega⟩, by simp; omega⟩
        have := HST.out
        rw [if_neg (by omega)] at this
        exact this.symm
      · have h1 : ((Utf8.decode s pos).1 : Int) < 32 := by assumption
        go_ret
        refine ⟨ret_bool ?_, (Ext.refl w).iter s _⟩
        unfold nameOk
        rw [HST.out, if_pos (.inl (by omega)), Bool.false_and]
    · have hnx : ∀ ty, (Instr.next (.pointer (some ⟨w.heap.size, 0, none⟩)) true ty).run Tryz.prog (w.iter s pos) = _ := fun ty => run_next_end w s pos ty hp
      have hok := hc.out
      rw [okFrom_end s b pos hp] at hok
      have hn : nameOk s = restOk s := by unfold nameOk; rw [← hok, Bool.true_and]
      have HR := Lib.hid hn
      clear hok hc hn
      rcases rest_cases s with ⟨hv, hr⟩ | ⟨hv, h0, hr⟩ | ⟨hv, h0, h1, hr⟩ | ⟨hv, h0, h1, hr⟩
      all_goals
        have HA := Lib.hid (HR.out.trans hr)
        have HV := Lib.hid (fun w1 h1 => valid_any HVV.out s w1 hs (HT.out.ext h1))
        rw [hv] at HV
        clear hr hv
      · go_wp2_with (go_at_call 71; refine (HV.out _ ((Ext.refl w).iter s pos)).mono ?_; rintro e w1 ⟨rfl, hx⟩)
        go_ret
        exact ⟨ret_bool HA.out.symm, ((Ext.refl w).iter s pos).trans hx⟩
      · have hl := isEmpty_of h0
        go_wp2_with (go_at_call 71; refine (HV.out _ ((Ext.refl w).iter s pos)).mono ?_; rintro e w1 ⟨rfl, hx⟩)
        go_ret
        exact ⟨ret_bool HA.out.symm, ((Ext.refl w).iter s pos).trans hx⟩
      · have hl := isEmpty_not h0
        go_wp2_with (first | (go_at_call 71; refine (HV.out _ ((Ext.refl w).iter s pos)).mono ?_; rintro e w1 ⟨rfl, hx⟩) | (go_at_call 72; refine (count_any s _ (by omega)).mono ?_; rintro e w2 ⟨rfl, hx2⟩))
        go_ret
        exact ⟨ret_bool HA.out.symm, (((Ext.refl w).iter s pos).trans hx).trans hx2⟩
      · have hl := isEmpty_not h0
        rw [byteAt_get s h0, byteAt_get s (j := s.size - 1) (by omega)] at HA
        go_wp2_with (first | (go_at_call 71; refine (HV.out _ ((Ext.refl w).iter s pos)).mono ?_; rintro e w1 ⟨rfl, hx⟩) | (go_at_call 72; refine (count_any s _ (by omega)).mono ?_; rintro e w2 ⟨rfl, hx2⟩))
        all_goals try (exfalso; omega)
        all_goals go_ret
        all_goals refine ⟨ret_bool (Eq.trans ?_ HA.out.symm), (((Ext.refl w).iter s pos).trans hx).trans hx2⟩
        · have h : ((s[0]).toNat : Int) = 32 := by assumption
          rw [h]; simp
        · simp only [bne, ne_eq, decide_not]
          rfl
end Go.Proofs.YtdnmpkdnfockgaaGreatDoor
