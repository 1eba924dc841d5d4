/-
  policy.Print and rootcellarref16.Print.
-/
import Derived.Test.YtdnmpkdnfockgaaGreatDoorPrintF
import Derived.Test.YtdnmpkdnfockgaaGreatDoorMust
import Derived.Deep.RegionHeld3
import Derived.Deep.CutRange
namespace Go.Proofs.YtdnmpkdnfockgaaGreatDoor
open Go.RowKit

/-- What is asked of strings.Join (the shelf's contract). -/
def JoinC (P : World → Prop) : Prop := ∀ (w : World) (base : Nat) (A : Option Addr) (c : Nat) (xs : List ByteArray), P w → Own encS 9 1 w base (.slice A xs.length c) xs → 0 < xs.length → xs.length ≤ 4 → (joinS xs).size ≤ 480 →
  Calls Tryz.prog 50 #[.slice A xs.length c, .string ⟨#[32]⟩] w fun e w' => e = .returned (.string (joinS xs)) ∧ Ext w w'

theorem Blk.four {w : World} {g : Nat} {t : TypeId} {a b c d : Value} (h : Blk w g t #[a, b, c, d]) : w.cell? ⟨g, 0, none⟩ = some a ∧ w.cell? ⟨g, 1, none⟩ = some b ∧ w.cell? ⟨g, 2, none⟩ = some c ∧ w.cell? ⟨g, 3, none⟩ = some d ∧ g < w.heap.size :=
  ⟨h.cell 0, h.cell 1, h.cell 2, h.cell 3, h.lt⟩
theorem sR_succ0 {p : Pol} {k : Nat} (h : p.nth k = 0) : sR p (k + 1) = sR p k := by rw [sR, if_neg (by omega)]
theorem sR_succ1 {p : Pol} {k : Nat} (h : 0 < p.nth k) (h0 : (sR p k).size = 0) : sR p (k + 1) = sR p k ++ lowT.extract k (k + 1) ++ decS (p.nth k) := by rw [sR, if_pos h, if_pos h0]
theorem sR_succ2 {p : Pol} {k : Nat} (h : 0 < p.nth k) (h0 : 0 < (sR p k).size) : sR p (k + 1) = sR p k ++ ⟨#[32]⟩ ++ lowT.extract k (k + 1) ++ decS (p.nth k) := by rw [sR, if_pos h, if_neg (by omega)]

set_option maxRecDepth 100000 in
set_option maxHeartbeats 2000000 in
theorem print2_any (p : Pol) (w : World) :
    Calls Tryz.prog 25 #[.agg #[.int .i64 p.d, .int .i64 p.w, .int .i64 p.m, .int .i64 p.y]] w fun e w' => e = .returned (.string (printF p)) ∧ Ext w w' := by
  have hp : p.right = false ∨ p.right = true := by cases p.right <;> simp
  rcases hp with hp | hp
  · have HR := Lib.hid (fun w => right2_any p w)
    have HF := Lib.hid (print_wrong hp)
    rw [hp] at HR
    clear hp
    go_enter Tryz.func25, Tryz.ntmps25
    go_wp2_with fail
    refine (HR.out _).mono ?_
    rintro e w1 ⟨rfl, hx1⟩
    go_wp2_with fail
    go_ret
    exact ⟨ret_str HF.out.symm, ((Ext.refl w).alloc _).trans hx1⟩
  · have HR := Lib.hid (fun w => right2_any p w)
    have HP := Lib.hid hp
    rw [hp] at HR
    clear hp
    have HNT := Lib.hid (fun k h => nth_lo2 HP.out k h)
    go_enter Tryz.func25, Tryz.ntmps25
    go_wp2_with fail
    refine (HR.out _).mono ?_
    rintro e w1 ⟨rfl, hx1⟩
    have E1 := Lib.hid (((Ext.refl w).alloc (.cells #[.int .i64 p.d, .int .i64 p.w, .int .i64 p.m, .int .i64 p.y] 47)).trans hx1)
    have B1 := Lib.hid ((Blk.new w 47 #[.int .i64 p.d, .int .i64 p.w, .int .i64 p.m, .int .i64 p.y]).ext hx1)
    clear hx1
    go_wp2_with fail
    go_loopw [4, 5] (fun v4 v5 wr => ∃ k : Nat, k ≤ 4 ∧ v5 = .int .i64 k ∧ v4 = .string (sR p k) ∧ (sR p k).size ≤ 120 * k ∧ Hid (Ext w1 wr)) (fun _ v5 _ => 4 - (intOf v5).toNat)
    case atStart => exact ⟨0, by omega, rfl, rfl, Nat.le_refl 0, Lib.hid (Ext.refl w1)⟩
    case round =>
      obtain ⟨k, hk, rfl, rfl, hsz, HE⟩ := hrel
      have B2 := Lib.hid (B1.out.ext HE.out)
      obtain ⟨p0, p1, p2, p3, plt⟩ := B2.out.four
      by_cases hlt : k < 4
      · obtain ⟨hn0, hn1⟩ := HNT.out k hlt
        have HOF := Lib.hid (fun w => of_any p k hlt w)
        have hds := decS_size hn0 hn1
        have HS0 := Lib.hid (@sR_succ0 p k)
        have HS1 := Lib.hid (@sR_succ1 p k)
        have HS2 := Lib.hid (@sR_succ2 p k)
        have hsk : Hid ((sR p (k + 1)).size ≤ 120 * (k + 1)) := Lib.hid (sR_size HP.out (k + 1) (by omega))
        obtain ⟨nn, hnn⟩ : ∃ nn, p.nth k = nn := ⟨_, rfl⟩
        rw [hnn] at HOF hn0 hn1 HS0 HS1 HS2 hds
        clear hnn
        obtain ⟨sk, hsk2⟩ : ∃ sk, sR p k = sk := ⟨_, rfl⟩
        rw [hsk2] at HS0 HS1 HS2 hsz ⊢
        clear hsk2
        have hcase : nn = 0 ∨ 0 < nn := by omega
        rcases hcase with rfl | hpos
        · have HSZ := Lib.hid (HS0.out rfl)
          clear HS0 HS1 HS2
          go_wp2_with fail
          refine (HOF.out _).mono ?_
          rintro e w2 ⟨rfl, hx2⟩
          go_wp2_with fail
          go_roundw
          case measure => simp [intOf]; omega
          case rel => exact ⟨k + 1, by omega, by go_num, by rw [HSZ.out], hsk.out, Lib.hid (HE.out.trans hx2)⟩
        · have hne : (nn == 0) = false := beq_eq_false_iff_ne.2 (by omega)
          have hc : sk.size = 0 ∨ 0 < sk.size := by omega
          obtain ⟨n0, rfl⟩ : ∃ n0 : Nat, nn = (n0 : Int) := ⟨nn.toNat, by omega⟩
          have HD := Lib.hid (fun w => (decimal2_any n0 w (by omega)).mono fun e w' (h : _ ∧ w = w') => (⟨h.1, h.2 ▸ Ext.refl w⟩ : e = Ending.returned (.string (decS (n0 : Int))) ∧ Ext w w'))
          have HT1 : Hid (sk.size = 0 → sR p (k + 1) = sk ++ lowT.extract k (k + 1) ++ decS (n0 : Int)) := Lib.hid (fun h => HS1.out hpos h)
          have HT2 : Hid (0 < sk.size → sR p (k + 1) = sk ++ ⟨#[32]⟩ ++ lowT.extract k (k + 1) ++ decS (n0 : Int)) := Lib.hid (fun h => HS2.out hpos h)
          obtain ⟨D, hD⟩ : ∃ D, decS (n0 : Int) = D := ⟨_, rfl⟩
          rw [hD] at hds HD HT1 HT2
          clear hD HS0 HS1 HS2
          rcases hc with hc | hc
          · have hl := isEmpty_of hc
            go_wp2_with fail
            refine (HOF.out _).mono ?_
            rintro e w2 ⟨rfl, hx2⟩
            obtain ⟨p0, p1, p2, p3, plt⟩ := (B2.out.ext hx2).four
            go_upto_region 11 with (fail)
            refine wp_region_ext (by kernel_rfl) (by kernel_rfl) ?_
            have z0 := EW.cell p0
            have z1 := EW.cell p1
            have z2 := EW.cell p2
            have z3 := EW.cell p3
            repeat (go_big_quiet_step (first | (go_at_call 18; exact EW.calls _ (HOF.out _)) | (go_at_call 51; exact EW.calls _ (HD.out _))))
            refine wpQuiet_nil ?_
            rintro _ ⟨y1, rfl⟩
            go_wp2_with fail
            go_roundw
            case measure => simp [intOf]; omega
            case rel => exact ⟨k + 1, by omega, by go_num, by rw [HT1.out hc]; rfl, hsk.out, Lib.hid (HE.out.trans (hx2.trans y1.h))⟩
          · have hl := isEmpty_not hc
            go_wp2_with fail
            refine (HOF.out _).mono ?_
            rintro e w2 ⟨rfl, hx2⟩
            obtain ⟨p0, p1, p2, p3, plt⟩ := (B2.out.ext hx2).four
            go_upto_region 11 with (fail)
            refine wp_region_ext (by kernel_rfl) (by kernel_rfl) ?_
            have z0 := EW.cell p0
            have z1 := EW.cell p1
            have z2 := EW.cell p2
            have z3 := EW.cell p3
            repeat (go_big_quiet_step (first | (go_at_call 18; exact EW.calls _ (HOF.out _)) | (go_at_call 51; exact EW.calls _ (HD.out _))))
            refine wpQuiet_nil ?_
            rintro _ ⟨y1, rfl⟩
            go_wp2_with fail
            go_roundw
            case measure => simp [intOf]; omega
            case rel => exact ⟨k + 1, by omega, by go_num, by rw [HT2.out hc]; rfl, hsk.out, Lib.hid (HE.out.trans (hx2.trans y1.h))⟩
      · obtain rfl : k = 4 := by omega
        have hj := sR_join HP.out 4 (by omega)
        have hpf : (sR p 4).size = 0 → printF p = d0S := fun h => by unfold printF; rw [if_pos HP.out, if_pos (hj.2.1 h)]
        have hpg : 0 < (sR p 4).size → printF p = sR p 4 := fun h => by unfold printF; rw [if_pos HP.out, if_neg (fun e => by have := hj.2.2 e; omega), hj.1]
        have HPF := Lib.hid hpf
        have HPG := Lib.hid hpg
        clear hj hpf hpg
        generalize sR p 4 = sk at *
        have hc : sk.size = 0 ∨ 0 < sk.size := by omega
        rcases hc with hc | hc
        · have hl := isEmpty_of hc
          go_wp2_with fail
          go_ret
          exact ⟨ret_str (HPF.out hc).symm, E1.out.trans HE.out⟩
        · have hl := isEmpty_not hc
          go_wp2_with fail
          go_ret
          exact ⟨ret_str (HPG.out hc).symm, E1.out.trans HE.out⟩
end Go.Proofs.YtdnmpkdnfockgaaGreatDoor
