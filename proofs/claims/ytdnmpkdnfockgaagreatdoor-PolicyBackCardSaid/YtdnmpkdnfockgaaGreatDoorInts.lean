/-
  Rows of numbers: in, sameInts of rootcellarlaw16.
-/
import Derived.Test.YtdnmpkdnfockgaaGreatDoorLatest
import Derived.Deep.QuietTactic
import Derived.BigQuiet
import Derived.Deep.DeepCutAuto
import Derived.Deep.CutBlock
import Derived.Deep.RegionWith
import Derived.Deep.RegionHeld3
namespace Go.Proofs.YtdnmpkdnfockgaaGreatDoor
open Go.RowKit

theorem Sl.at1 {w : World} {A : Option Addr} {l : List Int} (h : Sl encI 1 w A l) {i : Nat} (hi : i < l.length) : ∃ ad, A = some ad ∧ ad.block < w.heap.size ∧ w.cell? (ad.add i) = some (.int .i64 l[i]) := by
  obtain ⟨ad, e, hb, h⟩ := h.get hi
  have := h 0 _ rfl
  rw [Nat.mul_one, Nat.add_zero] at this
  exact ⟨ad, e, hb, this⟩
theorem mem_snoc (l : List Int) (n : Int) {k : Nat} (hk : k < l.length) : n ∈ l.take (k + 1) ↔ n ∈ l.take k ∨ l[k] = n := by
  rw [List.take_succ_eq_append_getElem hk, List.mem_append, List.mem_singleton, eq_comm (a := n)]

set_option maxHeartbeats 400000 in
theorem in_any (A : Option Addr) (c : Nat) (l : List Int) (n : Int) (w : World) (hl : Sl encI 1 w A l) (hn : l.length ≤ 9223372036854775807) :
    Calls Tryz.prog 13 #[.slice A l.length c, .int .i64 n] w fun e w' => e = .returned (.bool (decide (n ∈ l))) ∧ w = w' := by
  have HL := Lib.hid hl
  clear hl
  go_enter Tryz.func13, Tryz.ntmps13
  go_wp2
  go_loop [5] (fun v5 => ∃ k : Nat, k ≤ l.length ∧ v5 = .int .i64 k ∧ Hid (¬ n ∈ l.take k)) (fun v5 => l.length - (intOf v5).toNat)
  case atStart => exact ⟨0, by omega, rfl, Lib.hid (by simp)⟩
  case round =>
    obtain ⟨k, hk, rfl, H⟩ := hrel
    by_cases hlt : k < l.length
    · obtain ⟨ad, rfl, hbb, x0⟩ := HL.out.at1 hlt
      have HS := Lib.hid (mem_snoc l n hlt)
      generalize l[k] = x at *
      have hx : (x == n) = true ∨ (x == n) = false := by cases (x == n) <;> simp
      rcases hx with hx | hx
      · go_wp2
        go_ret
        refine ⟨ret_bool ?_, rfl⟩
        exact (decide_eq_true (List.mem_of_mem_take (HS.out.2 (.inr (beq_iff_eq.1 hx))))).symm
      · go_wp2
        refine ⟨⟨k + 1, by omega, by go_num, ?_⟩, by simp [intOf]; omega⟩
        refine Lib.hid ?_
        rw [HS.out]
        exact fun h => h.elim H.out (beq_eq_false_iff_ne.1 hx)
    · obtain rfl : k = l.length := by omega
      rw [List.take_length] at H
      go_wp2
      go_ret
      exact ⟨ret_bool (decide_eq_false H.out).symm, rfl⟩

theorem beq_take (a b : List Int) : (∀ j, j < a.length → a[j]? = b[j]?) → a.length = b.length → a = b := by
  intro h hl
  apply List.ext_getElem?
  intro i
  rcases Nat.lt_or_ge i a.length with hi | hi
  · exact h i hi
  · rw [List.getElem?_eq_none hi, List.getElem?_eq_none (by omega)]

set_option maxHeartbeats 400000 in
theorem sameInts_any (A : Option Addr) (c : Nat) (l : List Int) (B : Option Addr) (d : Nat) (m : List Int) (w : World) (hl : Sl encI 1 w A l) (hm : Sl encI 1 w B m) (hn : l.length ≤ 9223372036854775807) (hn2 : m.length ≤ 9223372036854775807) :
    Calls Tryz.prog 14 #[.slice A l.length c, .slice B m.length d] w fun e w' => e = .returned (.bool (decide (l = m))) ∧ Ext w w' := by
  have HL := Lib.hid hl
  have HM := Lib.hid hm
  clear hl hm
  by_cases hlen : l.length = m.length
  · have hb : ((l.length : Int) == (m.length : Int)) = true := beq_iff_eq.2 (by omega)
    go_enter Tryz.func14, Tryz.ntmps14
    go_wp2
    go_loopw [5] (fun v5 wr => ∃ k : Nat, k ≤ l.length ∧ v5 = .int .i64 k ∧ Hid (∀ j, j < k → l[j]? = m[j]?) ∧ Hid (Ext w wr)) (fun v5 _ => l.length - (intOf v5).toNat)
    case atStart => exact ⟨0, by omega, rfl, fun j hj => absurd hj (by omega), Ext.refl w⟩
    case round =>
      obtain ⟨k, hk, rfl, H, HE⟩ := hrel
      by_cases hlt : k < l.length
      · obtain ⟨ad, rfl, hbb, x0⟩ := (HL.out.ext HE.out).at1 hlt
        obtain ⟨ad2, rfl, hbb2, y0⟩ := (HM.out.ext HE.out).at1 (show k < m.length by omega)
        have hk1 : l[k]? = some l[k] := List.getElem?_eq_getElem hlt
        have hk2 : m[k]? = some m[k] := List.getElem?_eq_getElem (by omega)
        generalize l[k] = x at *
        generalize m[k] = y at *
        have HK := Lib.hid (And.intro hk1 hk2)
        clear hk1 hk2
        have hltm : k < m.length := by omega
        have hx : (x == y) = true ∨ (x == y) = false := by cases (x == y) <;> simp
        have gx := EW.cell x0
        have gy := EW.cell y0
        clear x0 y0
        go_upto_region 6 with (fail)
        rcases hx with hx | hx
        · refine wp_region_ext (by kernel_rfl) (by kernel_rfl) ?_
          repeat (go_big_quiet_step (fail))
          refine wpQuiet_nil ?_
          rintro _ ⟨y1, rfl⟩
          go_wp2_with fail
          go_roundw
          case measure => simp [intOf]; omega
          case rel =>
            refine ⟨k + 1, by omega, by go_num, fun j hj => ?_, HE.out.trans y1.h⟩
            by_cases e : j = k
            · subst e
              rw [HK.out.1, HK.out.2, beq_iff_eq.1 hx]
            · exact H.out j (by omega)
        · refine wp_region_ext (by kernel_rfl) (by kernel_rfl) ?_
          repeat (go_big_quiet_step (fail))
          refine wpQuiet_nil ?_
          rintro _ ⟨y1, rfl⟩
          go_wp2_with fail
          go_ret
          refine ⟨ret_bool ?_, HE.out.trans y1.h⟩
          symm
          rw [decide_eq_false_iff_not]
          intro e
          subst e
          have h := HK.out.1.symm.trans HK.out.2
          injection h with h
          subst h
          simp at hx
      · obtain rfl : k = l.length := by omega
        go_wp2
        go_ret
        exact ⟨ret_bool (decide_eq_true (beq_take l m H.out hlen)).symm, HE.out⟩
  · have hb : ((l.length : Int) == (m.length : Int)) = false := beq_eq_false_iff_ne.2 (by omega)
    go_enter Tryz.func14, Tryz.ntmps14
    go_wp2
    go_ret
    exact ⟨ret_bool (decide_eq_false (fun e => hlen (by rw [e]))).symm, Ext.refl w⟩
end Go.Proofs.YtdnmpkdnfockgaaGreatDoor
