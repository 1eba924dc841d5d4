/-
  must of rootcellarlaw16, Of of rootcellarref16.
-/
import Derived.Test.YtdnmpkdnfockgaaGreatDoorPol
namespace Go.Proofs.YtdnmpkdnfockgaaGreatDoor
open Go.RowKit

theorem must_any (p : Pol) (w : World) : Calls Tryz.prog 19 #[.agg #[.int .i64 p.d, .int .i64 p.w, .int .i64 p.m, .int .i64 p.y]] w fun e w' => e = .returned (.agg #[.int .i64 p.d, .int .i64 p.w, .int .i64 p.m, .int .i64 p.y]) ∧ Ext w w' := by
  go_enter Tryz.func19, Tryz.ntmps19
  go_wp2_with fail
  refine bodyPost_ret (v := .agg #[.int .i64 p.d, .int .i64 p.w, .int .i64 p.m, .int .i64 p.y]) (by simp [results, Tryz.results19, go_sem]) rfl ⟨rfl, ?_⟩
  repeat (first | with_reducible exact Ext.refl w | with_reducible refine Ext.alloc ?_ _ | with_reducible refine Ext.setCell ?_ (by dsimp only; omega) _)

set_option maxHeartbeats 1000000 in
theorem of_any (p : Pol) (k : Nat) (hk : k < 4) (w : World) : Calls Tryz.prog 18 #[.agg #[.int .i64 p.d, .int .i64 p.w, .int .i64 p.m, .int .i64 p.y], .int .i64 k] w fun e w' => e = .returned (.int .i64 (p.nth k)) ∧ Ext w w' := by
  have h : k = 0 ∨ k = 1 ∨ k = 2 ∨ k = 3 := by omega
  rcases h with rfl | rfl | rfl | rfl
  all_goals
    go_enter Tryz.func18, Tryz.ntmps18
    go_wp2_with fail
    go_ret
    exact ⟨ret_int rfl, (Ext.refl w).alloc _⟩
end Go.Proofs.YtdnmpkdnfockgaaGreatDoor
