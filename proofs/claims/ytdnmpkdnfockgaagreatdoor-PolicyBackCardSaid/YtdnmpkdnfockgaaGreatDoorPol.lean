/-
  What policy.counts and policy.Right come to.
-/
import Derived.Test.YtdnmpkdnfockgaaGreatDoorProg
import Derived.Test.YtdnmpkdnfockgaaGreatDoorWords
namespace Go.Proofs.YtdnmpkdnfockgaaGreatDoor
open Go.RowKit

structure Pol where
  d : Int
  w : Int
  m : Int
  y : Int
def Pol.cells (p : Pol) : Array Value := #[.int .i64 p.d, .int .i64 p.w, .int .i64 p.m, .int .i64 p.y]
def Pol.val (p : Pol) : Value := .agg #[.int .i64 p.d, .int .i64 p.w, .int .i64 p.m, .int .i64 p.y]
def Pol.nth (p : Pol) : Nat → Int | 0 => p.d | 1 => p.w | 2 => p.m | _ => p.y
def okN (n : Int) : Bool := decide (0 ≤ n) && decide (n ≤ 1000)
def Pol.right (p : Pol) : Bool := okN p.d && okN p.w && okN p.m && okN p.y

theorem counts_any (p : Pol) (w : World) :
    Calls Tryz.prog 26 #[.agg #[.int .i64 p.d, .int .i64 p.w, .int .i64 p.m, .int .i64 p.y]] w fun e w' => e = .returned (.agg #[.int .i64 p.d, .int .i64 p.w, .int .i64 p.m, .int .i64 p.y]) ∧ Ext w w' := by
  go_enter Tryz.func26, Tryz.ntmps26
  go_wp2
  exact bodyPost_ret (v := .agg #[.int .i64 p.d, .int .i64 p.w, .int .i64 p.m, .int .i64 p.y]) (by simp [results, Tryz.results26, go_sem]) rfl ⟨rfl, ((Ext.refl w).alloc _).alloc _⟩

theorem nth_lo {p : Pol} {k : Nat} : p.nth k < 0 → okN (p.nth k) = false := by unfold okN; intro h; simp; omega
theorem right_no {p : Pol} {k : Nat} (hk : k < 4) (h : okN (p.nth k) = false) : p.right = false := by
  unfold Pol.right
  have : k = 0 ∨ k = 1 ∨ k = 2 ∨ k = 3 := by omega
  rcases this with rfl | rfl | rfl | rfl <;> simp_all [Pol.nth]
theorem right_yes {p : Pol} (h : ∀ k, k < 4 → okN (p.nth k) = true) : p.right = true := by
  have h0 := h 0 (by omega); have h1 := h 1 (by omega); have h2 := h 2 (by omega); have h3 := h 3 (by omega)
  simp_all [Pol.right, Pol.nth]
theorem nth0 (p : Pol) (w : World) : (Instr.index 63 (.agg #[.int .i64 p.d, .int .i64 p.w, .int .i64 p.m, .int .i64 p.y]) (.int .i64 0)).run Tryz.prog w = .ok (.int .i64 p.d) w := by kernel_rfl
theorem nth1 (p : Pol) (w : World) : (Instr.index 63 (.agg #[.int .i64 p.d, .int .i64 p.w, .int .i64 p.m, .int .i64 p.y]) (.int .i64 1)).run Tryz.prog w = .ok (.int .i64 p.w) w := by kernel_rfl
theorem nth2 (p : Pol) (w : World) : (Instr.index 63 (.agg #[.int .i64 p.d, .int .i64 p.w, .int .i64 p.m, .int .i64 p.y]) (.int .i64 2)).run Tryz.prog w = .ok (.int .i64 p.m) w := by kernel_rfl
theorem nth3 (p : Pol) (w : World) : (Instr.index 63 (.agg #[.int .i64 p.d, .int .i64 p.w, .int .i64 p.m, .int .i64 p.y]) (.int .i64 3)).run Tryz.prog w = .ok (.int .i64 p.y) w := by kernel_rfl
theorem nth_run (p : Pol) (k : Nat) (hk : k < 4) (w : World) : (Instr.index 63 (.agg #[.int .i64 p.d, .int .i64 p.w, .int .i64 p.m, .int .i64 p.y]) (.int .i64 (k : Int))).run Tryz.prog w = .ok (.int .i64 (p.nth k)) w := by
  have : k = 0 ∨ k = 1 ∨ k = 2 ∨ k = 3 := by omega
  rcases this with rfl | rfl | rfl | rfl
  · exact nth0 p w
  · exact nth1 p w
  · exact nth2 p w
  · exact nth3 p w

set_option maxHeartbeats 400000 in
theorem right_any (p : Pol) (w : World) :
    Calls Tryz.prog 10 #[.agg #[.int .i64 p.d, .int .i64 p.w, .int .i64 p.m, .int .i64 p.y]] w fun e w' => e = .returned (.bool p.right) ∧ Ext w w' := by
  go_enter Tryz.func10, Tryz.ntmps10
  go_wp2_with (go_at_call 26; refine (counts_any p _).mono ?_; rintro e w1 ⟨rfl, hx⟩)
  have hx1 := ((Ext.refl w).alloc _).trans hx
  have HX := Lib.hid hx1
  clear hx hx1
  go_loop [7, 4] (fun i _ => ∃ k : Nat, k ≤ 4 ∧ i = .int .i64 k ∧ Hid (∀ j, j < k → okN (p.nth j) = true)) (fun i _ => 4 - (intOf i).toNat)
  case atStart => exact ⟨0, by omega, rfl, fun j hj => absurd hj (by omega)⟩
  case round =>
    obtain ⟨k, hk, rfl, H⟩ := hrel
    by_cases hlt : k < 4
    · have hi := nth_run p k hlt
      go_wp2
      · have hb : p.nth k < 0 ∨ 1000 < p.nth k := by assumption
        go_ret
        exact ⟨ret_bool (right_no hlt (by unfold okN; simp; omega)).symm, HX.out⟩
      · have hb : 0 ≤ p.nth k ∧ p.nth k ≤ 1000 := by assumption
        refine ⟨⟨k + 1, by omega, by go_num, fun j hj => ?_⟩, by simp [intOf]; omega⟩
        by_cases e : j = k
        · subst e; unfold okN; simp; omega
        · exact H.out j (by omega)
      · have hb : p.nth k < 0 := by assumption
        go_ret
        exact ⟨ret_bool (right_no hlt (nth_lo hb)).symm, HX.out⟩
    · go_wp2
      go_ret
      exact ⟨ret_bool (right_yes (fun j hj => H.out j (by omega))).symm, HX.out⟩
end Go.Proofs.YtdnmpkdnfockgaaGreatDoor
