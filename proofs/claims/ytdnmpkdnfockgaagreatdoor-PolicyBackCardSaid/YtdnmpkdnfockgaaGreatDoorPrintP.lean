/-
  policy.Print.
-/
import Derived.Test.YtdnmpkdnfockgaaGreatDoorPrint
namespace Go.Proofs.YtdnmpkdnfockgaaGreatDoor
open Go.RowKit

theorem prW_succ0 {p : Pol} {k : Nat} (h : p.nth k = 0) : prW p (k + 1) = prW p k := by rw [prW, if_neg (by omega)]
theorem prW_succ1 {p : Pol} {k : Nat} (h : 0 < p.nth k) : prW p (k + 1) = prW p k ++ [lowT.extract k (k + 1) ++ decS (p.nth k)] := by rw [prW, if_pos h]; rfl
theorem printF_none {p : Pol} (hp : p.right = true) (h : (prW p 4).length = 0) : printF p = d0S := by unfold printF; rw [if_pos hp, if_pos (List.eq_nil_of_length_eq_zero h)]
theorem printF_some {p : Pol} (hp : p.right = true) (h : 0 < (prW p 4).length) : printF p = joinS (prW p 4) := by unfold printF; rw [if_pos hp, if_neg (fun e => by rw [e] at h; exact absurd h (by decide))]
theorem joinS_size {p : Pol} (hp : p.right = true) : (joinS (prW p 4)).size ≤ 480 := by rw [← (sR_join hp 4 (by omega)).1]; exact sR_size hp 4 (by omega)

set_option maxRecDepth 100000 in
set_option maxHeartbeats 2000000 in
theorem print_any {P : World → Prop} (HI : ItoaC P) (HF : Holdfast P) (HJ : JoinC P) (p : Pol) (w : World) (hpw : P w) :
    Calls Tryz.prog 24 #[.agg #[.int .i64 p.d, .int .i64 p.w, .int .i64 p.m, .int .i64 p.y]] w fun e w' => e = .returned (.string (printF p)) ∧ Ext w w' := by
  have HPW := Lib.hid (fun w1 (h : Ext w w1) => HF _ _ hpw h)
  have HJJ := Lib.hid HJ
  have HIT : Hid (∀ (n : Int) (w1 : World), 0 ≤ n → n ≤ 1000 → Ext w w1 → Calls Tryz.prog 49 #[.int .i64 n] w1 fun e w' => e = .returned (.string (decS n)) ∧ Ext w1 w') := Lib.hid (fun n w1 h0 h1 hx => (HI n w1 h0 h1 (HPW.out _ hx)).mono fun e w' ⟨he, hx⟩ => ⟨by rw [he, Lib.itoa, if_neg (by omega)]; rfl, hx⟩)
  clear HI HF HJ hpw
  have hp : p.right = false ∨ p.right = true := by cases p.right <;> simp
  rcases hp with hp | hp
  · have HR := Lib.hid (fun w => right_any p w)
    have HX := Lib.hid (print_wrong hp)
    rw [hp] at HR
    clear hp
    go_enter Tryz.func24, Tryz.ntmps24
    go_wp2_with fail
    refine (HR.out _).mono ?_
    rintro e w1 ⟨rfl, hx1⟩
    go_wp2_with fail
    go_ret
    exact ⟨ret_str HX.out.symm, ((Ext.refl w).alloc _).trans hx1⟩
  · have HR := Lib.hid (fun w => right_any p w)
    have HP := Lib.hid hp
    rw [hp] at HR
    clear hp
    have HNT := Lib.hid (fun k h => nth_lo2 HP.out k h)
    go_enter Tryz.func24, Tryz.ntmps24
    go_wp2_with fail
    refine (HR.out _).mono ?_
    rintro e w1 ⟨rfl, hx1⟩
    have E1 := Lib.hid (((Ext.refl w).alloc (.cells #[.int .i64 p.d, .int .i64 p.w, .int .i64 p.m, .int .i64 p.y] 23)).trans hx1)
    have B1 := Lib.hid ((Blk.new w 23 #[.int .i64 p.d, .int .i64 p.w, .int .i64 p.m, .int .i64 p.y]).ext hx1)
    clear hx1
    obtain ⟨p0, p1, p2, p3, plt⟩ := B1.out.four
    go_wp2_with fail
    refine (counts_any p _).mono ?_
    rintro e w2 ⟨rfl, hx2⟩
    have E2 := Lib.hid (E1.out.trans hx2)
    clear hx2 p0 p1 p2 p3 plt B1 E1
    have HNR := Lib.hid (fun k hk w => nth_run p k hk w)
    go_wp2_with fail
    go_loopw [3, 11] (fun v3 v11 wr => ∃ k : Nat, k ≤ 4 ∧ v11 = .int .i64 k ∧ Hid (Own encS 9 1 wr w2.heap.size v3 (prW p k)) ∧ Hid (Ext w2 wr)) (fun _ v11 _ => 4 - (intOf v11).toNat)
    case atStart => exact ⟨0, by omega, rfl, Own.nil, Ext.refl w2⟩
    case round =>
      obtain ⟨k, hk, rfl, HO, HE⟩ := hrel
      have hsize := HE.out.size
      have hpl := prW_len p k
      obtain ⟨A3, c3, rfl, _⟩ := HO.out.slice
      by_cases hlt : k < 4
      · obtain ⟨hn0, hn1⟩ := HNT.out k hlt
        have hnr := HNR.out k hlt
        have HS0 := Lib.hid (@prW_succ0 p k)
        have HS1 := Lib.hid (@prW_succ1 p k)
        obtain ⟨nn, hnn⟩ : ∃ nn, p.nth k = nn := ⟨_, rfl⟩
        rw [hnn] at hn0 hn1 HS0 HS1
        simp only [hnn] at hnr
        clear hnn
        generalize prW p k = pk at *
        have hcase : nn = 0 ∨ 0 < nn := by omega
        rcases hcase with rfl | hpos
        · have HSZ := Lib.hid (HS0.out rfl)
          clear HS0 HS1
          go_wp2_with fail
          go_roundw
          case measure => simp [intOf]; omega
          case rel => exact ⟨k + 1, by omega, by go_num, by rw [HSZ.out]; exact HO, HE⟩
        · have HSZ := Lib.hid (HS1.out hpos)
          clear HS0 HS1
          have hk0 : (0 : Int) ≤ (k : Int) := by omega
          have hk1 : (k : Int) + 1 ≤ 4 := by omega
          have hk2 : (k : Int) ≤ (k : Int) + 1 := by omega
          have hk3 : (0 : Int) ≤ (k : Int) + 1 := by omega
          have hkw : IntKind.i64.wrap ((k : Int) + 1) = (k : Int) + 1 := by simp [IntKind.wrap, IntKind.bits, IntKind.signed]; omega
          have HII := Lib.hid (fun w1 h => HIT.out nn w1 hn0 hn1 h)
          have hds := decS_size hn0 hn1
          have hxs : (lowT.extract k (k + 1)).size ≤ 4 := by rw [ByteArray.size_extract]; show min _ 4 - _ ≤ 4; omega
          unfold lowT at hxs
          obtain ⟨D, hD⟩ : ∃ D, decS nn = D := ⟨_, rfl⟩
          rw [hD] at HSZ HII hds
          have hadd : ∀ W, (Op.stringOp .add ((⟨#[100, 119, 109, 121]⟩ : ByteArray).extract k (k + 1)) D).run Tryz.prog W = .ok (.string ((⟨#[100, 119, 109, 121]⟩ : ByteArray).extract k (k + 1) ++ D)) W := fun W => run_string_add_sum W _ _ (by omega)
          clear hxs
          clear hD
          obtain ⟨i0, hi0, hz0, hz1, hz2⟩ := info_parts info_str
          go_upto_region 8 with (fail)
          go_region_held3 (fun w' => Ext w2 w')
            (first
              | exact HE.out
              | exact HE.out.drew
              | exact HE.out.drew.trans hx5
              | exact (HE.out.drew.trans hx5).alloc _
              | exact Own.step ((HO.out.drew.ext hx5).alloc _) ((HE.out.drew.trans hx5).alloc _) hgrow)
            (first
              | (go_at_call 49; refine (HII.out _ (E2.out.trans HE.out.drew)).mono ?_; rintro e w5 ⟨rfl, hx5⟩; have hs5 : wr.heap.size ≤ w5.heap.size := hx5.size)
              | ((refine step_append_lies _ (by rfl) _ _ _ (by rfl) w2.heap.size 9 i0 _ 1 16 Tryz.underlying78 hi0 hz0 hz1 hz2 rfl (by omega) (.slice A3 pk.length c3) pk.length (pk.flatMap encS) (by rfl) ((HO.out.drew.ext hx5).alloc _) ⟨w5.heap.size, 0, none⟩ 1 1 [.string (lowT.extract k (k + 1) ++ D)] (by rfl) (by rfl) (World.news_of_block (cs := #[.string (lowT.extract k (k + 1) ++ D)]) (t := 9) (fr := (0, 0)) (heap_alloc_new w5 _)) (by simp [Value.oneCell']) (by omega) (by unfold maxLen; omega) (by omega) (by simp; omega) (w5.heap.size + 1) (by simp) ?_; intro gg cap w6 hown6 hgrow hat hlt6)))
          go_wp2_with fail
          go_roundw
          case measure => simp [intOf]; omega
          case rel =>
            refine ⟨k + 1, by omega, by go_num, ?_, Lib.hid (Own.step ((HO.out.drew.ext hx5).alloc _) ((HE.out.drew.trans hx5).alloc _) hgrow)⟩
            rw [HSZ.out]
            refine Lib.hid ?_
            unfold Own
            rw [List.length_append, List.flatMap_append]
            exact hown6
      · obtain rfl : k = 4 := by omega
        have hz := joinS_size HP.out
        have HPF := Lib.hid (fun h => printF_none HP.out h)
        have HPG := Lib.hid (fun h => printF_some HP.out h)
        generalize prW p 4 = pk at *
        have hc : pk.length = 0 ∨ 0 < pk.length := by omega
        rcases hc with hc | hc
        · go_wp2_with fail
          go_ret
          exact ⟨ret_str (HPF.out hc).symm, E2.out.trans HE.out⟩
        · have HJX := Lib.hid (HJJ.out wr w2.heap.size A3 c3 pk (HPW.out _ (E2.out.trans HE.out)) HO.out hc hpl hz)
          have hc0 : (0 : Int) < (pk.length : Int) := by omega
          have hc1 : ((pk.length : Int) == 0) = false := beq_eq_false_iff_ne.2 (by omega)
          clear hz
          go_wp2_with fail
          refine HJX.out.mono ?_
          rintro e w5 ⟨rfl, hx5⟩
          go_wp2_with fail
          go_ret
          exact ⟨ret_str (HPG.out hc).symm, E2.out.trans (HE.out.trans hx5)⟩
end Go.Proofs.YtdnmpkdnfockgaaGreatDoor
