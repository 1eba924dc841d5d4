/-
  What cmp.Compare, cmp.Or and the comparison of policy.Keep come to.
-/
import Derived.Test.YtdnmpkdnfockgaaGreatDoorLatest
import Derived.StillTailTactics
import Derived.Sort.Grow
namespace Go.Proofs.YtdnmpkdnfockgaaGreatDoor
open Go.RowKit

def cmpI (a b : Int) : Int := if a < b then -1 else if b < a then 1 else 0

set_option maxHeartbeats 400000 in
theorem cmpInt_any (a b : Int) (w : World) : Calls Tryz.prog 33 #[.int .i64 a, .int .i64 b] w fun e w' => e = .returned (.int .i64 (cmpI a b)) ∧ w = w' := by
  have h1 : ∀ (a : Int) w, Calls Tryz.prog 58 #[.int .i64 a] w fun e w' => e = .returned (.bool false) ∧ w = w' := by
    intro a w
    go_enter Tryz.func58, Tryz.ntmps58
    go_wp2
    go_ret
    exact ⟨ret_bool (by simp), rfl⟩
  have H := Lib.hid h1
  clear h1
  go_enter Tryz.func33, Tryz.ntmps33
  go_wp2_with (go_at_call 58; refine (H.out _ _).mono ?_; rintro e w' ⟨rfl, rfl⟩)
  all_goals
    go_ret
    refine ⟨ret_int ?_, rfl⟩
    unfold cmpI
  · rw [if_pos (by assumption)]
  · rw [if_neg (by omega), if_pos (by assumption)]
  · rw [if_neg (by omega), if_neg (by omega)]

set_option maxHeartbeats 400000 in
theorem cmpU_any (a b : Int) (w : World) : Calls Tryz.prog 32 #[.int .u64 a, .int .u64 b] w fun e w' => e = .returned (.int .i64 (cmpI a b)) ∧ w = w' := by
  have h1 : ∀ (a : Int) w, Calls Tryz.prog 57 #[.int .u64 a] w fun e w' => e = .returned (.bool false) ∧ w = w' := by
    intro a w
    go_enter Tryz.func57, Tryz.ntmps57
    go_wp2
    go_ret
    exact ⟨ret_bool (by simp), rfl⟩
  have H := Lib.hid h1
  clear h1
  go_enter Tryz.func32, Tryz.ntmps32
  go_wp2_with (go_at_call 57; refine (H.out _ _).mono ?_; rintro e w' ⟨rfl, rfl⟩)
  all_goals
    go_ret
    refine ⟨ret_int ?_, rfl⟩
    unfold cmpI
  · rw [if_pos (by assumption)]
  · rw [if_neg (by omega), if_pos (by assumption)]
  · rw [if_neg (by omega), if_neg (by omega)]

def val2 (a b : Int) (k : Nat) : Int := if k = 0 then a else b
theorem or_at {a b : Int} {k : Nat} (hk : k < 2) (h0 : ∀ j, j < k → val2 a b j = 0) (h : val2 a b k ≠ 0) : (if a = 0 then b else a) = val2 a b k := by
  have : k = 0 ∨ k = 1 := by omega
  rcases this with rfl | rfl
  · rw [if_neg (by simpa [val2] using h)]; rfl
  · rw [if_pos (by simpa [val2] using h0 0 (by omega))]; rfl

set_option maxHeartbeats 400000 in
theorem or_any (g : Nat) (a b : Int) (w : World) (hb : Blk w g 3 #[.int .i64 a, .int .i64 b]) : Calls Tryz.prog 31 #[.slice (some ⟨g, 0, none⟩) 2 2] w fun e w' => e = .returned (.int .i64 (if a = 0 then b else a)) ∧ w = w' := by
  have hc : ∀ k, k < 2 → w.cell? ⟨g, k, none⟩ = some (.int .i64 (val2 a b k)) := by
    intro k hk
    have : k = 0 ∨ k = 1 := by omega
    rcases this with rfl | rfl
    · exact hb.cell 0
    · exact hb.cell 1
  have HC := Lib.hid hc
  clear hc hb
  obtain ⟨r, hr⟩ : ∃ r, (if a = 0 then b else a) = r := ⟨_, rfl⟩
  rw [hr]
  have HR := Lib.hid hr
  clear hr
  go_enter Tryz.func31, Tryz.ntmps31
  go_wp2
  go_loop [8] (fun i => ∃ k : Nat, k ≤ 2 ∧ i = .int .i64 k ∧ Hid (∀ j, j < k → val2 a b j = 0)) (fun i => 2 - (intOf i).toNat)
  case atStart => exact ⟨0, by omega, rfl, fun j hj => absurd hj (by omega)⟩
  case round =>
    obtain ⟨k, hk, rfl, H0⟩ := hrel
    by_cases hlt : k < 2
    · have ck := HC.out k hlt
      obtain ⟨v, hv⟩ : ∃ v, val2 a b k = v := ⟨_, rfl⟩
      rw [hv] at ck
      have HV := Lib.hid hv
      clear hv
      have hcase : (v != 0) = true ∨ (v != 0) = false := by cases v != 0 <;> simp
      rcases hcase with hn | hn
      · have hne : v ≠ 0 := by simpa using hn
        have HNE := Lib.hid hne
        clear hne
        go_wp2
        go_ret
        exact ⟨ret_int (by rw [← HR.out, or_at hlt H0.out (by rw [HV.out]; exact HNE.out), HV.out]), rfl⟩
      · have hz : v = 0 := by simpa using hn
        have HZ := Lib.hid hz
        clear hz
        go_wp2
        refine ⟨⟨k + 1, by omega, by go_num, fun j hj => ?_⟩, by simp [intOf]; omega⟩
        by_cases e : j = k
        · subst e; rw [HV.out, HZ.out]
        · exact H0.out j (by omega)
    · go_wp2
      go_ret
      refine ⟨ret_int ?_, rfl⟩
      have h0 := H0.out 0 (by omega)
      have h1 := H0.out 1 (by omega)
      rw [← HR.out]
      simp [val2] at h0 h1
      simp [h0, h1]

theorem still_tail {P : Program} {id : Nat} {Q : Exit → Act → World → Prop} {a : Act} {w : World} {l : List Oper} (n : Nat) (hm : P.follows .mixedOrders = true) (hB : Region.lexTailB .any l.toArray n = true)
    (h : wpStill P l.toArray w.drew (fun a' => wpList P l.toArray Q (l.drop n) a' w.drew) (l.take n) a) : (Code.region id l.toArray true).wp P Q a w := wp_region_still_tail n hm hB h

theorem Blk.drew {w : World} {g : Nat} {t : TypeId} {cs : Array Value} (h : Blk w g t cs) : Blk w.drew g t cs := h

theorem grow3 (w : World) (A B C : Obj) : ∃ q os', (((w.alloc A).alloc B).alloc C).drew = Go.Sort.grow (w.drewN q) os' := by
  refine ⟨1, #[A] ++ #[B] ++ #[C], ?_⟩
  rw [Go.Sort.alloc_eq_grow, Go.Sort.alloc_eq_grow, Go.Sort.alloc_eq_grow, Go.Sort.grow_grow, Go.Sort.grow_grow]
  rfl

/-- The comparison of policy.Keep: the newest first. -/
def cmpK (x y : Lk) : Int := if cmpI y.time x.time = 0 then cmpI y.id x.id else cmpI y.time x.time

set_option maxRecDepth 100000 in
set_option maxHeartbeats 1000000 in
theorem keep1_any (x y : Lk) (w : World) : Calls Tryz.prog 30 #[.agg #[.int .i64 x.id, .int .i64 x.parent, .string x.name, .int .u64 x.time, .bool x.ghost, .bool x.pin], .agg #[.int .i64 y.id, .int .i64 y.parent, .string y.name, .int .u64 y.time, .bool y.ghost, .bool y.pin]] w fun e w' => e = .returned (.int .i64 (cmpK x y)) ∧ ∃ q os', w' = Go.Sort.grow (w.drewN q) os' := by
  have H1 := fun w => Lib.hid (cmpU_any y.time x.time w)
  have H2 := fun w => Lib.hid (cmpInt_any y.id x.id w)
  obtain ⟨a, ha⟩ : ∃ a, cmpI y.time x.time = a := ⟨_, rfl⟩
  obtain ⟨b, hb⟩ : ∃ b, cmpI y.id x.id = b := ⟨_, rfl⟩
  have hr : cmpK x y = if a = 0 then b else a := by unfold cmpK; rw [ha, hb]
  rw [ha] at H1
  rw [hb] at H2
  have HO := fun g w hb => or_any g a b w hb
  rw [← hr] at HO
  have HOO := Lib.hid HO
  clear ha hb hr HO
  generalize cmpK x y = r at *
  go_enter Tryz.func30, Tryz.ntmps30
  go_wp2
  refine still_tail 10 (by kernel_rfl) (by kernel_rfl) ?_
  simp only [List.take_succ_cons, List.take_zero, List.drop_succ_cons, List.drop_zero]
  repeat still_step
  still_call ((H1 _).out.mono fun _ _ h => ⟨h.1, h.2.symm⟩)
  repeat still_step
  still_call ((H2 _).out.mono fun _ _ h => ⟨h.1, h.2.symm⟩)
  refine wpStill_nil ?_
  go_wp2_with fail
  refine (HOO.out (w.heap.size + 1 + 1) _ (Blk.at_ ((w.alloc _).alloc _) 3 #[.int .i64 a, .int .i64 b] (by simp)).drew).mono ?_
  rintro e w' ⟨rfl, rfl⟩
  go_wp2
  go_ret
  exact ⟨rfl, grow3 w _ _ _⟩
end Go.Proofs.YtdnmpkdnfockgaaGreatDoor
