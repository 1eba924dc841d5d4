/-
  What date.Civil and date.Bucket come to.
-/
import Derived.Test.YtdnmpkdnfockgaaGreatDoorProg
import Derived.Test.YtdnmpkdnfockgaaGreatDoorWords
namespace Go.Proofs.YtdnmpkdnfockgaaGreatDoor
open Go.RowKit

def civilF (d : Int) : Int × Int × Int :=
  let r := (d + 719468) % 146097
  let y := (r - r / 1460 + r / 36524 - r / 146096) / 365
  let q := r - (365 * y + y / 4 - y / 100)
  let m := (5 * q + 2).tdiv 153
  let dom := wrap64 (wrap64 (q - wrap64 ((wrap64 (wrap64 (153 * m) + 2)).tdiv 5)) + 1)
  let year := y + (d + 719468) / 146097 * 400
  if 12 < wrap64 (m + 3) then (year + 1, wrap64 (wrap64 (m + 3) - 12), dom) else (year, wrap64 (m + 3), dom)

set_option maxHeartbeats 800000 in
theorem civil_any (d : Int) (w : World) (h0 : 0 ≤ d) (h1 : d ≤ 281474976710656) :
    Calls Tryz.prog 83 #[.int .i64 d] w fun e w' => e = .returned (.tuple #[.int .i64 (civilF d).1, .int .i64 (civilF d).2.1, .int .i64 (civilF d).2.2]) ∧ w = w' := by
  go_enter Tryz.func83, Tryz.ntmps83
  go_wp2
  · rename_i hm
    go_ret3
    have hc : civilF d = _ := if_pos hm
    rw [hc]
    exact ⟨rfl, rfl⟩
  · rename_i hm
    go_ret3
    have hc : civilF d = _ := if_neg (Int.not_lt.2 hm)
    rw [hc]
    exact ⟨rfl, rfl⟩

def bktD (tier d : Int) : Int :=
  if tier = 0 then d else if tier = 1 then (d + 3) / 7 else
  if tier = 2 then wrap64 (wrap64 (wrap64 (12 * (civilF d).1) + (civilF d).2.1) - 1) else if tier = 3 then (civilF d).1 else 0
def bucketF (tier sec : Int) : Int := bktD tier (sec / 86400)

theorem day_eq {sec : Int} (h0 : 0 ≤ sec) (h1 : sec / 86400 ≤ 213503982334601) : wrap64 (IntKind.u64.wrap (sec.tdiv 86400)) = sec / 86400 := by
  have h : sec.tdiv 86400 = sec / 86400 := by rw [Int.tdiv_eq_ediv_of_nonneg h0]
  rw [h, IntKind.wrap_u64]
  unfold wrap64
  omega

set_option maxHeartbeats 800000 in
theorem bucket_any (tier sec : Int) (w : World) (h0 : 0 ≤ sec) (h1 : sec / 86400 ≤ 213503982334601) :
    Calls Tryz.prog 59 #[.int .i64 tier, .int .u64 sec] w fun e w' => e = .returned (.int .i64 (bucketF tier sec)) ∧ w = w' := by
  unfold bucketF
  have H := Lib.hid (day_eq h0 h1)
  have H2 : ∀ w, Calls Tryz.prog 83 #[.int .i64 (sec / 86400)] w fun e w' => e = .returned (.tuple #[.int .i64 (civilF (sec / 86400)).1, .int .i64 (civilF (sec / 86400)).2.1, .int .i64 (civilF (sec / 86400)).2.2]) ∧ w = w' := fun w => civil_any _ w (by omega) (by omega)
  have H3 := Lib.hid H2
  clear H2
  have hd0 : 0 ≤ sec / 86400 := by omega
  clear h0
  generalize sec / 86400 = d at *
  go_enter Tryz.func59, Tryz.ntmps59
  go_wp2_with (go_at_call 83; rw [H.out]; refine (H3.out _).mono ?_; rintro e w' ⟨rfl, rfl⟩)
  all_goals
    go_ret
    refine ⟨ret_int ?_, rfl⟩
    unfold bktD
    simp_all
end Go.Proofs.YtdnmpkdnfockgaaGreatDoor
