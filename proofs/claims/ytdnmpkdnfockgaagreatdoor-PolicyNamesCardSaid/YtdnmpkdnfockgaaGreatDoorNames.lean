/-
  What PolicyNames comes to: the walk.
-/
import Derived.Test.YtdnmpkdnfockgaaGreatDoorShown
import Derived.Test.YtdnmpkdnfockgaaGreatDoorPlainD
import Derived.Test.YtdnmpkdnfockgaaGreatDoorDecimal
import Derived.Test.YtdnmpkdnfockgaaGreatDoorMust
import Derived.Test.YtdnmpkdnfockgaaGreatDoorMore
import Derived.Lib.MinMax
namespace Go.Proofs.YtdnmpkdnfockgaaGreatDoor
open Go.RowKit

def capT : ByteArray := ⟨#[68, 87, 77, 89]⟩
def sF (p : Pol) (f : Nat) : Nat → ByteArray
  | 0 => ByteArray.empty
  | i + 1 => sF p f i ++ ⟨#[32, 32]⟩ ++ lowT.extract ((f + i) % 4) ((f + i) % 4 + 1) ++ decS (p.nth ((f + i) % 4))
def tF (p : Pol) (f : Nat) : Nat → ByteArray
  | 0 => ByteArray.empty
  | i + 1 => tF p f i ++ capT.extract ((f + i) % 4) ((f + i) % 4 + 1) ++ decS (p.nth ((f + i) % 4)) ++ ⟨#[32]⟩
set_option maxRecDepth 100000 in
set_option maxHeartbeats 4000000 in
theorem names_any {P : World → Prop} (L : LibAll P) (p : Pol) (first : Int) (w : World) (hp : P w)
    (law : p.right = true → ∀ f, f ≤ 3 → parseF (sF p f 4) = some p ∧ parseF (tF p f 4) = some p ∧ parseF (sF p f 4 ++ tF p f 4) = none) :
    Calls Tryz.prog 5 #[.agg #[.int .i64 p.d, .int .i64 p.w, .int .i64 p.m, .int .i64 p.y], .int .i64 first] w fun e w' => e = .returned (.bool true) ∧ Ext w w' := by
  have HL := Lib.hid L
  have HPW := Lib.hid (fun w1 (h : Ext w w1) => L.s.hold _ _ hp h)
  have HSH := Lib.hid (fun w1 (h : Ext w w1) => shown_any L w1 (L.s.hold _ _ hp h))
  have HLAW := Lib.hid law
  clear L hp law
  go_enter Tryz.func5, Tryz.ntmps5
  go_wp2_with fail
  have E0 := (Ext.refl w).alloc (.cells #[.int .i64 p.d, .int .i64 p.w, .int .i64 p.m, .int .i64 p.y] 23)
  have bp := Blk.new w 23 #[.int .i64 p.d, .int .i64 p.w, .int .i64 p.m, .int .i64 p.y]
  refine (HSH.out _ E0).mono ?_
  rintro e w1 ⟨rfl, hx1⟩
  have E1 := Lib.hid (E0.trans hx1)
  have BP1 := Lib.hid (bp.ext hx1)
  clear E0 bp hx1 HSH
  obtain ⟨p0, p1, p2, p3, plt⟩ := BP1.out.c4
  have HRp := Lib.hid (fun w => right_any p w)
  have hcase : p.right = false ∨ p.right = true := by cases p.right <;> simp
  obtain ⟨rp, hrp⟩ : ∃ b, p.right = b := ⟨_, rfl⟩
  rw [hrp] at HRp hcase
  have HRR := Lib.hid hrp
  clear hrp
  go_wp2_with fail
  refine (HRp.out _).mono ?_
  rintro e w2 ⟨rfl, hx2⟩
  have X2 := Lib.hid hx2
  clear hx2 p0 p1 p2 p3 plt
  rcases hcase with rfl | rfl
  · go_wp2_with fail
    go_ret
    exact ⟨rfl, E1.out.trans X2.out⟩
  · obtain ⟨f, hf, hf3⟩ : ∃ f : Nat, max 0 (min first 3) = (f : Int) ∧ f ≤ 3 := ⟨(max 0 (min first 3)).toNat, by omega, by omega⟩
    have HF := Lib.hid hf
    clear hf
    have HNT := Lib.hid (fun k h => nth_lo2 HRR.out k h)
    go_wp2_with fail
    go_loopw [8, 6, 7] (fun v8 v6 v7 wr => ∃ i : Nat, i ≤ 4 ∧ v8 = .int .i64 i ∧ v6 = .string (sF p f i) ∧ v7 = .string (tF p f i) ∧ (sF p f i).size ≤ 120 * i ∧ (tF p f i).size ≤ 120 * i ∧ Hid (Ext w2 wr)) (fun v8 _ _ _ => 4 - (intOf v8).toNat)
    case atStart => exact ⟨0, by omega, rfl, rfl, rfl, Nat.le_refl 0, Nat.le_refl 0, Ext.refl w2⟩
    case round =>
      obtain ⟨i, hi, rfl, rfl, rfl, hs1, hs2, HE⟩ := hrel
      obtain ⟨p0, p1, p2, p3, plt⟩ := (BP1.out.ext (X2.out.trans HE.out)).c4
      by_cases hlt : i < 4
      · have hf := HF.out
        obtain ⟨k, hk⟩ : ∃ k, (f + i) % 4 = k := ⟨_, rfl⟩
        have hki : ((f : Int) + (i : Int)) % 4 = (k : Int) := by omega
        have hk4 : k < 4 := by omega
        have HOF := Lib.hid (fun w => of_any p k hk4 w)
        obtain ⟨hn0, hn1⟩ := HNT.out k hk4
        obtain ⟨nn, hnn⟩ : ∃ nn, p.nth k = nn := ⟨_, rfl⟩
        rw [hnn] at HOF hn0 hn1
        have HNN := Lib.hid hnn
        clear hnn
        go_wp2_with fail
        refine (must_any p _).mono ?_
        rintro e w3 ⟨rfl, hx3⟩
        go_wp2_with fail
        refine (HOF.out _).mono ?_
        rintro e w4 ⟨rfl, hx4⟩
        have HE4 := Lib.hid (HE.out.trans (hx3.trans hx4))
        clear hx3 hx4 p0 p1 p2 p3 plt
        obtain ⟨n0, rfl⟩ : ∃ n0 : Nat, nn = (n0 : Int) := ⟨nn.toNat, by omega⟩
        have hDs := decS_size hn0 hn1
        have HD := Lib.hid (fun w => (decimal_any n0 w (by omega)).mono fun e w' (h : _ ∧ w = w') => (⟨h.1, h.2 ▸ Ext.refl w⟩ : e = Ending.returned (.string (decS (n0 : Int))) ∧ Ext w w'))
        obtain ⟨D, hD⟩ : ∃ D, decS (n0 : Int) = D := ⟨_, rfl⟩
        rw [hD] at hDs HD
        have hsf : sF p f (i + 1) = sF p f i ++ ⟨#[32, 32]⟩ ++ lowT.extract k (k + 1) ++ D := by rw [sF, hk, HNN.out, hD]
        have htf : tF p f (i + 1) = tF p f i ++ capT.extract k (k + 1) ++ D ++ ⟨#[32]⟩ := by rw [tF, hk, HNN.out, hD]
        have hsz1 : (sF p f (i + 1)).size ≤ 120 * (i + 1) := by
          rw [hsf]
          simp only [ByteArray.size_append, ByteArray.size_extract]
          show (sF p f i).size + 2 + _ + D.size ≤ _
          omega
        have hsz2 : (tF p f (i + 1)).size ≤ 120 * (i + 1) := by
          rw [htf]
          simp only [ByteArray.size_append, ByteArray.size_extract]
          show (tF p f i).size + _ + D.size + 1 ≤ _
          omega
        have HSF := Lib.hid hsf
        have HTF := Lib.hid htf
        have HZ1 := Lib.hid hsz1
        have HZ2 := Lib.hid hsz2
        clear hD hsf htf hsz1 hsz2
        go_upto_region 11 with (fail)
        refine wp_region_ext (by kernel_rfl) (by kernel_rfl) ?_
        repeat (go_big_quiet_step ((go_at_call 20; exact EW.calls _ (HD.out _))))
        refine wpQuiet_nil ?_
        rintro _ ⟨y1, rfl⟩
        go_upto_region 12 with (fail)
        refine wp_region_ext (by kernel_rfl) (by kernel_rfl) ?_
        repeat (go_big_quiet_step ((go_at_call 20; exact EW.calls _ (HD.out _))))
        refine wpQuiet_nil ?_
        rintro _ ⟨y2, rfl⟩
        go_wp2_with fail
        go_roundw
        case measure => simp [intOf]; omega
        case rel => exact ⟨i + 1, by omega, by go_num, by rw [HSF.out]; rfl, by rw [HTF.out]; rfl, HZ1.out, HZ2.out, HE4.out.trans (y1.h.trans y2.h)⟩
      · obtain rfl : i = 4 := by omega
        obtain ⟨l1, l2, l3⟩ := HLAW.out HRR.out f hf3
        have HC1 := Lib.hid (fun w1 (h : Ext w w1) => parse_any HL.out.s (sF p f 4) w1 (HPW.out _ h) (by omega))
        have HC2 := Lib.hid (fun w1 (h : Ext w w1) => parse_any HL.out.s (tF p f 4) w1 (HPW.out _ h) (by omega))
        have HC3 := Lib.hid (fun w1 (h : Ext w w1) => parse_any HL.out.s (sF p f 4 ++ tF p f 4) w1 (HPW.out _ h) (by rw [ByteArray.size_append]; omega))
        rw [l1] at HC1
        rw [l2] at HC2
        rw [l3] at HC3
        clear l1 l2 l3
        have HEE := Lib.hid (E1.out.trans (X2.out.trans HE.out))
        generalize sF p f 4 = ss at *
        generalize tF p f 4 = tt at *
        go_wp2_with fail
        refine (HC1.out _ HEE.out).mono ?_
        rintro e w3 ⟨hpo, hx3⟩
        unfold ParseOut at hpo
        subst hpo
        go_wp2_with fail
        have hx4 := (hx3.alloc (.cells #[.int .i64 p.d, .int .i64 p.w, .int .i64 p.m, .int .i64 p.y] 23))
        refine (HC2.out _ (HEE.out.trans hx4)).mono ?_
        rintro e w5 ⟨hpo, hx5⟩
        unfold ParseOut at hpo
        subst hpo
        have HX5 := Lib.hid (hx4.trans hx5)
        have B3 := Lib.hid ((Blk.new w3 23 #[.int .i64 p.d, .int .i64 p.w, .int .i64 p.m, .int .i64 p.y]).ext hx5)
        clear hx3 hx4 hx5
        go_wp2_with fail
        have hx6 := (HX5.out.alloc (.cells #[.int .i64 p.d, .int .i64 p.w, .int .i64 p.m, .int .i64 p.y] 23))
        refine (HC3.out _ (HEE.out.trans hx6)).mono ?_
        rintro e w7 ⟨hpo, hx7⟩
        unfold ParseOut at hpo
        subst hpo
        have HX7 := Lib.hid (hx6.trans hx7)
        have B5 := Lib.hid ((Blk.new w5 23 #[.int .i64 p.d, .int .i64 p.w, .int .i64 p.m, .int .i64 p.y]).ext hx7)
        obtain ⟨a0, a1, a2, a3, alt⟩ := ((B3.out.alloc _).ext hx7).c4
        obtain ⟨b0, b1, b2, b3, blt⟩ := B5.out.c4
        obtain ⟨p0, p1, p2, p3, plt⟩ := (BP1.out.ext (X2.out.trans (HE.out.trans HX7.out))).c4
        clear hx6 hx7
        go_wp2_with fail
        go_ret
        exact ⟨ret_bool (by simp), HEE.out.trans (HX7.out.alloc _)⟩
end Go.Proofs.YtdnmpkdnfockgaaGreatDoor
