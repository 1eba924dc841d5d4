/-
  What PolicyReads comes to: the walk.
-/
import Derived.Test.YtdnmpkdnfockgaaGreatDoorShown
import Derived.Test.YtdnmpkdnfockgaaGreatDoorRefP
import Derived.Test.YtdnmpkdnfockgaaGreatDoorPrintP
namespace Go.Proofs.YtdnmpkdnfockgaaGreatDoor
open Go.RowKit

set_option maxRecDepth 100000 in
set_option maxHeartbeats 4000000 in
theorem reads_any {P : World → Prop} (L : LibAll P) (HJ : JoinC P) (s : ByteArray) (p : Pol) (w : World) (hp : P w) (hs : s.size ≤ 9223372036854775807) :
    Calls Tryz.prog 6 #[.string s, .agg #[.int .i64 p.d, .int .i64 p.w, .int .i64 p.m, .int .i64 p.y]] w fun e w' => e = .returned (.bool true) ∧ Ext w w' := by
  have HPW := Lib.hid (fun w1 (h : Ext w w1) => L.s.hold _ _ hp h)
  have HSH := Lib.hid (fun w1 (h : Ext w w1) => shown_any L w1 (L.s.hold _ _ hp h))
  have HPR := Lib.hid (fun w1 (h : Ext w w1) => print_any L.s.itoa L.s.hold HJ p w1 (L.s.hold _ _ hp h))
  have HPA := Lib.hid (fun w1 (h : Ext w w1) (h3 : s.size ≤ 300) => parse_any L.s s w1 (L.s.hold _ _ hp h) (by omega))
  rw [parse_R] at HPA
  clear L HJ hp
  go_enter Tryz.func6, Tryz.ntmps6
  go_wp2_with fail
  have E0 := (Ext.refl w).alloc (.cells #[.int .i64 p.d, .int .i64 p.w, .int .i64 p.m, .int .i64 p.y] 23)
  have bp := Blk.new w 23 #[.int .i64 p.d, .int .i64 p.w, .int .i64 p.m, .int .i64 p.y]
  refine (HSH.out _ E0).mono ?_
  rintro e w1 ⟨rfl, hx1⟩
  have E1 := Lib.hid (E0.trans hx1)
  have BP1 := Lib.hid (bp.ext hx1)
  clear E0 bp hx1 HSH
  by_cases h3 : s.size ≤ 300
  · have h3i : (s.size : Int) ≤ 300 := by omega
    have HRP := Lib.hid (fun w1 => refparse_any s w1 (by omega))
    have HR1 := Lib.hid (fun w => right_any p w)
    have HR2 := Lib.hid (fun w => right2_any p w)
    have HP2 := Lib.hid (fun w => print2_any p w)
    obtain ⟨r, hr⟩ : ∃ r, parseR s.data.toList = r := ⟨_, rfl⟩
    rw [hr] at HPA HRP
    generalize p.right = rp at *
    generalize printF p = pr at *
    clear hr
    go_wp2_with fail
    refine (HPA.out _ E1.out h3).mono ?_
    rintro e w2 ⟨hpo, hx2⟩
    unfold ParseOut at hpo
    obtain ⟨q, er, hq⟩ : ∃ (q : Pol) (er : Int), ∀ e, ParseOut r e → e = .returned (.tuple #[.agg #[.int .i64 q.d, .int .i64 q.w, .int .i64 q.m, .int .i64 q.y], .int .i64 er]) := by
      cases r with
      | none => exact ⟨⟨0, 0, 0, 0⟩, 2, fun e h => h⟩
      | some q => exact ⟨q, 0, fun e h => h⟩
    obtain rfl := hq _ hpo
    have HQ := Lib.hid hq
    clear hq hpo
    go_wp2_with fail
    have hx3 := hx2.alloc (.cells #[.int .i64 q.d, .int .i64 q.w, .int .i64 q.m, .int .i64 q.y] 23)
    refine (HRP.out _).mono ?_
    rintro e w4 ⟨hpo, hx4⟩
    obtain rfl := HQ.out _ hpo
    have HX4 := Lib.hid (hx3.trans hx4)
    have B6 := Lib.hid ((Blk.new w2 23 #[.int .i64 q.d, .int .i64 q.w, .int .i64 q.m, .int .i64 q.y]).ext hx4)
    clear hx2 hx3 hx4 hpo HQ
    go_upto_region 6 with (fail)
    have B8 := Lib.hid (Blk.new w4 47 #[.int .i64 q.d, .int .i64 q.w, .int .i64 q.m, .int .i64 q.y])
    have HX5 := Lib.hid (HX4.out.alloc (.cells #[.int .i64 q.d, .int .i64 q.w, .int .i64 q.m, .int .i64 q.y] 47))
    obtain ⟨a0, a1, a2, a3, alt⟩ := (B6.out.alloc (.cells #[.int .i64 q.d, .int .i64 q.w, .int .i64 q.m, .int .i64 q.y] 47)).four
    obtain ⟨b0, b1, b2, b3, blt⟩ := B8.out.four
    obtain ⟨c0, c1, c2, c3, clt⟩ := (BP1.out.ext HX5.out).four
    refine wp_region_ext (by kernel_rfl) (by kernel_rfl) ?_
    have z0 := EW.cell a0
    have z1 := EW.cell a1
    have z2 := EW.cell a2
    have z3 := EW.cell a3
    have y0 := EW.cell b0
    have y1 := EW.cell b1
    have y2 := EW.cell b2
    have y3 := EW.cell b3
    have x0 := EW.cell c0
    have x1 := EW.cell c1
    have x2 := EW.cell c2
    have x3 := EW.cell c3
    clear a0 a1 a2 a3 b0 b1 b2 b3 c0 c1 c2 c3 HPA HRP
    have HC1 : Hid (∀ x : EW (w4.alloc (.cells #[.int .i64 q.d, .int .i64 q.w, .int .i64 q.m, .int .i64 q.y] 47)), Ext w x.w) := Lib.hid (fun x => E1.out.trans (HX5.out.trans x.h))
    repeat (go_big_quiet_step (first | (go_at_call 19; exact EW.calls _ (must_any _ _)) | (go_at_call 10; exact EW.calls _ (HR1.out _)) | (go_at_call 23; exact EW.calls _ (HR2.out _)) | (go_at_call 24; exact EW.calls _ (HPR.out _ (HC1.out _))) | (go_at_call 25; exact EW.calls _ (HP2.out _))))
    refine wpQuiet_nil ?_
    rintro _ ⟨xw, rfl⟩
    go_wp2_with fail
    go_ret
    exact ⟨ret_bool (by simp), HC1.out xw⟩
  · have h3i : (300 : Int) < (s.size : Int) := by omega
    go_wp2_with fail
    go_ret
    exact ⟨rfl, E1.out⟩
end Go.Proofs.YtdnmpkdnfockgaaGreatDoor
