/-
  The reference's Bucket at tier 0: the day. (Its Civil ends.)
-/
import Derived.Test.YtdnmpkdnfockgaaGreatDoorLatest
namespace Go.Proofs.YtdnmpkdnfockgaaGreatDoor
open Go.RowKit

def leapB (y : Int) : Bool := ((y % 4 == 0) && (y % 100 != 0)) || (y % 400 == 0)
def daysI (y : Int) : Int := if leapB y = true then 366 else 365
def longI (y m : Int) : Int := if m = 4 ∨ m = 6 ∨ m = 9 ∨ m = 11 then 30 else if m = 2 then (if leapB y = true then 29 else 28) else if m < 1 ∨ 12 < m then 0 else 31

set_option maxHeartbeats 1000000 in
theorem leap_any (y : Int) (w : World) (hy : 0 ≤ y) : Calls Tryz.prog 93 #[.int .i64 y] w fun e w' => e = .returned (.bool (leapB y)) ∧ w = w' := by
  have h4 : (y % 4 == 0) = true ∨ (y % 4 == 0) = false := by cases (y % 4 == 0) <;> simp
  have h100 : (y % 100 != 0) = true ∨ (y % 100 != 0) = false := by cases (y % 100 != 0) <;> simp
  obtain ⟨b, hb⟩ : ∃ b, leapB y = b := ⟨_, rfl⟩
  have HB := Lib.hid hb
  rw [hb]
  clear hb
  rcases h4 with h4 | h4 <;> rcases h100 with h100 | h100
  all_goals
    go_enter Tryz.func93, Tryz.ntmps93
    go_wp2
    go_ret
    refine ⟨ret_bool ?_, rfl⟩
    rw [← HB.out]
    unfold leapB
    rw [h4, h100]
    simp
set_option maxHeartbeats 1000000 in
theorem days_any (y : Int) (w : World) (hy : 0 ≤ y) : Calls Tryz.prog 62 #[.int .i64 y] w fun e w' => e = .returned (.int .i64 (daysI y)) ∧ w = w' := by
  have H := Lib.hid (leap_any y w hy)
  have HD : Hid (daysI y = if leapB y = true then 366 else 365) := Lib.hid rfl
  obtain ⟨b, hb⟩ : ∃ b, leapB y = b := ⟨_, rfl⟩
  rw [hb] at H HD
  clear hb
  generalize daysI y = dd at *
  cases b
  all_goals
    go_enter Tryz.func62, Tryz.ntmps62
    go_wp2_with fail
    refine H.out.mono ?_
    rintro e w1 ⟨rfl, rfl⟩
    go_wp2_with fail
    go_ret
    exact ⟨ret_int (by rw [HD.out]; rfl), rfl⟩
set_option maxHeartbeats 1000000 in
theorem long_any (y m : Int) (w : World) (hy : 0 ≤ y) (h0 : 1 ≤ m) (h1 : m ≤ 12) : Calls Tryz.prog 63 #[.int .i64 y, .int .i64 m] w fun e w' => e = .returned (.int .i64 (longI y m)) ∧ w = w' := by
  have H := Lib.hid (leap_any y w hy)
  obtain ⟨b, hb⟩ : ∃ b, leapB y = b := ⟨_, rfl⟩
  rw [hb] at H
  have HB := Lib.hid hb
  clear hb
  obtain ⟨r, hr⟩ : ∃ r, longI y m = r := ⟨_, rfl⟩
  have HR := Lib.hid hr
  rw [hr]
  clear hr
  have hm : m = 1 ∨ m = 2 ∨ m = 3 ∨ m = 4 ∨ m = 5 ∨ m = 6 ∨ m = 7 ∨ m = 8 ∨ m = 9 ∨ m = 10 ∨ m = 11 ∨ m = 12 := by omega
  rcases hm with rfl | rfl | rfl | rfl | rfl | rfl | rfl | rfl | rfl | rfl | rfl | rfl
  case inr.inl =>
    cases b
    all_goals
      go_enter Tryz.func63, Tryz.ntmps63
      go_wp2_with fail
      refine H.out.mono ?_
      rintro e w1 ⟨rfl, rfl⟩
      go_wp2_with fail
      go_ret
      exact ⟨ret_int (by rw [← HR.out]; unfold longI; rw [HB.out]; rfl), rfl⟩
  all_goals
    go_enter Tryz.func63, Tryz.ntmps63
    go_wp2_with fail
    go_ret
    exact ⟨ret_int (by rw [← HR.out]; rfl), rfl⟩

/-- The days that are left of a year from a month on. -/
def leftI (y m : Int) : Int := if m = 1 then daysI y else if m = 2 then daysI y - 31 else if m = 3 then 306 else if m = 4 then 275 else if m = 5 then 245 else if m = 6 then 214 else if m = 7 then 184 else if m = 8 then 153 else if m = 9 then 122 else if m = 10 then 92 else if m = 11 then 61 else if m = 12 then 31 else 0
theorem left_step (y m : Int) (h0 : 1 ≤ m) (h1 : m ≤ 12) : leftI y m - longI y m = leftI y (m + 1) ∧ 0 < longI y m := by
  have hd : daysI y = 365 ∧ leapB y = false ∨ daysI y = 366 ∧ leapB y = true := by
    unfold daysI
    cases leapB y <;> simp
  have hm : m = 1 ∨ m = 2 ∨ m = 3 ∨ m = 4 ∨ m = 5 ∨ m = 6 ∨ m = 7 ∨ m = 8 ∨ m = 9 ∨ m = 10 ∨ m = 11 ∨ m = 12 := by omega
  rcases hd with ⟨hd, hl⟩ | ⟨hd, hl⟩ <;> rcases hm with rfl | rfl | rfl | rfl | rfl | rfl | rfl | rfl | rfl | rfl | rfl | rfl <;> simp [leftI, longI, hd, hl]
theorem daysI_le (y : Int) : 365 ≤ daysI y ∧ daysI y ≤ 366 := by
  unfold daysI
  split <;> omega

set_option maxRecDepth 10000 in
set_option maxHeartbeats 2000000 in
theorem civil15_any (day : Int) (w : World) (h0 : 0 ≤ day) (h1 : day ≤ 281474976710656) :
    Calls Tryz.prog 38 #[.int .i64 day] w fun e w' => (∃ y m d : Int, e = .returned (.tuple #[.int .i64 y, .int .i64 m, .int .i64 d])) ∧ w = w' := by
  go_enter Tryz.func38, Tryz.ntmps38
  go_wp2
  go_loop [0, 5] (fun v0 v5 => ∃ d y : Int, v0 = .int .i64 d ∧ v5 = .int .i64 y ∧ 0 ≤ d ∧ d ≤ 146097 ∧ 1970 ≤ y ∧ y ≤ 1000000000000 - d) (fun v0 _ => (intOf v0).toNat)
  case atStart => exact ⟨_, _, rfl, rfl, by omega, by omega, by omega, by omega⟩
  case round =>
    obtain ⟨d, y, rfl, rfl, hd0, hd1, hy0, hy1⟩ := hrel
    have H := Lib.hid (fun w => days_any y w (by omega))
    have hdl := daysI_le y
    have HD : Hid (daysI y = leftI y 1) := Lib.hid rfl
    have HLo := Lib.hid (fun m w h0 h1 => long_any y m w (by omega) h0 h1)
    have HLe := Lib.hid (fun m h0 h1 => left_step y m h0 h1)
    generalize daysI y = dy at *
    have hc : dy ≤ d ∨ d < dy := by omega
    rcases hc with hc | hc
    · go_wp2_with fail
      refine (H.out _).mono ?_
      rintro e w1 ⟨rfl, rfl⟩
      go_wp2_with fail
      refine (H.out _).mono ?_
      rintro e w1 ⟨rfl, rfl⟩
      go_wp2_with fail
      go_roundw
      case measure => simp [intOf]; omega
      case rel => exact ⟨d - dy, y + 1, by go_num, by go_num, by omega, by omega, by omega, by omega⟩
    · go_wp2_with fail
      refine (H.out _).mono ?_
      rintro e w1 ⟨rfl, rfl⟩
      have hcl : Hid (d < leftI y 1) := Lib.hid (by rw [← HD.out]; exact hc)
      go_wp2_with fail
      go_loop [0, 6] (fun v0 v6 => ∃ d m : Int, v0 = .int .i64 d ∧ v6 = .int .i64 m ∧ 0 ≤ d ∧ d ≤ 146097 ∧ 1 ≤ m ∧ m ≤ 12 ∧ Hid (d < leftI y m)) (fun v0 _ => (intOf v0).toNat)
      case atStart => exact ⟨d, 1, rfl, rfl, by omega, by omega, by omega, by omega, hcl⟩
      case round =>
        obtain ⟨d, m, rfl, rfl, hd0, hd1, hm0, hm1, hlt⟩ := hrel
        have H1 := Lib.hid (fun w => HLo.out m w hm0 hm1)
        obtain ⟨hl1, hl2⟩ := HLe.out m hm0 hm1
        have HL1 := Lib.hid hl1
        clear hl1
        have hnx : longI y m ≤ d → m + 1 ≤ 12 := fun h => by
          by_cases e : m = 12
          · subst e
            have h1 := HL1.out
            have h2 := hlt.out
            have h3 : leftI y (12 + 1) = 0 := rfl
            omega
          · omega
        have HN := Lib.hid hnx
        clear hnx
        generalize longI y m = lo at *
        have hc2 : lo ≤ d ∨ d < lo := by omega
        rcases hc2 with hc2 | hc2
        · have hm2 := HN.out hc2
          go_wp2_with fail
          refine (H1.out _).mono ?_
          rintro e w1 ⟨rfl, rfl⟩
          go_wp2_with fail
          refine (H1.out _).mono ?_
          rintro e w1 ⟨rfl, rfl⟩
          go_wp2_with fail
          go_roundw
          case measure => simp [intOf]; omega
          case rel => exact ⟨d - lo, m + 1, by go_num, by go_num, by omega, by omega, by omega, by omega, Lib.hid (by have := HL1.out; have := hlt.out; omega)⟩
        · go_wp2_with fail
          refine (H1.out _).mono ?_
          rintro e w1 ⟨rfl, rfl⟩
          go_wp2_with fail
          go_ret3
          exact ⟨⟨_, _, _, rfl⟩, rfl⟩

set_option maxHeartbeats 1000000 in
theorem bucket15_any (sec : Int) (w : World) (h0 : 0 ≤ sec) (h1 : sec / 86400 ≤ 213503982334601) :
    Calls Tryz.prog 17 #[.int .i64 0, .int .u64 sec] w fun e w' => e = .returned (.int .i64 (sec / 86400)) ∧ w = w' := by
  have HE := Lib.hid (day_eq h0 h1)
  have HC := Lib.hid (civil15_any (sec / 86400) w (by omega) (by omega))
  have hd0 : 0 ≤ sec / 86400 := by omega
  clear h0
  generalize sec / 86400 = d at *
  go_enter Tryz.func17, Tryz.ntmps17
  go_wp2_with (go_at_call 38; rw [HE.out]; refine HC.out.mono ?_; rintro e w' ⟨⟨_, _, _, rfl⟩, rfl⟩)
  go_ret
  exact ⟨ret_int rfl, rfl⟩
end Go.Proofs.YtdnmpkdnfockgaaGreatDoor
