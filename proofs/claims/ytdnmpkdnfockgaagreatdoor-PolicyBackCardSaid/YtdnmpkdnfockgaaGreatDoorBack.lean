/-
  What PolicyBack comes to: the walk.
-/
import Derived.Test.YtdnmpkdnfockgaaGreatDoorShown
import Derived.Test.YtdnmpkdnfockgaaGreatDoorPrintP
namespace Go.Proofs.YtdnmpkdnfockgaaGreatDoor
open Go.RowKit

theorem parse_empty : parseR (ByteArray.empty).data.toList = some ⟨0, 0, 0, 0⟩ := rfl

set_option maxRecDepth 100000 in
set_option maxHeartbeats 4000000 in
theorem back_any {P : World → Prop} (L : LibAll P) (HJ : JoinC P) (p : Pol) (s : ByteArray) (w : World) (hp : P w) (hs : s.size ≤ 9223372036854775807) :
    Calls Tryz.prog 7 #[.agg #[.int .i64 p.d, .int .i64 p.w, .int .i64 p.m, .int .i64 p.y], .string s] w fun e w' => e = .returned (.bool true) ∧ Ext w w' := by
  have HPW := Lib.hid (fun w1 (h : Ext w w1) => L.s.hold _ _ hp h)
  have HSH := Lib.hid (fun w1 (h : Ext w w1) => shown_any L w1 (L.s.hold _ _ hp h))
  have HPR := Lib.hid (fun (q : Pol) w1 (h : Ext w w1) => print_any L.s.itoa L.s.hold HJ q w1 (L.s.hold _ _ hp h))
  have HPA := Lib.hid (fun (t : ByteArray) w1 (h : Ext w w1) (h3 : t.size ≤ 480) => (parse_any L.s t w1 (L.s.hold _ _ hp h) (by omega)))
  have HPZ := Lib.hid (fun q => printF_size q)
  have HRR := Lib.hid (fun q w => right_any q w)
  clear L HJ hp
  go_enter Tryz.func7, Tryz.ntmps7
  go_wp2_with fail
  have E0 := (Ext.refl w).alloc (.cells #[.int .i64 p.d, .int .i64 p.w, .int .i64 p.m, .int .i64 p.y] 23)
  have bp := Blk.new w 23 #[.int .i64 p.d, .int .i64 p.w, .int .i64 p.m, .int .i64 p.y]
  refine (HSH.out _ E0).mono ?_
  rintro e w1 ⟨rfl, hx1⟩
  have E1 := Lib.hid (E0.trans hx1)
  have BP1 := Lib.hid (bp.ext hx1)
  clear E0 bp hx1 HSH
  by_cases h3 : s.size ≤ 300
  · have h3i : (s.size : Int) ≤ 300 := by omega
    obtain ⟨p0, p1, p2, p3, plt⟩ := BP1.out.four
    go_wp2_with fail
    refine (HPR.out p _ E1.out).mono ?_
    rintro e w2 ⟨rfl, hx2⟩
    have E2 := Lib.hid (E1.out.trans hx2)
    have BP2 := Lib.hid (BP1.out.ext hx2)
    clear hx2 p0 p1 p2 p3 plt
    go_wp2_with fail
    refine (HPA.out (printF p) _ E2.out (HPZ.out p)).mono ?_
    rintro e w3 ⟨hpo, hx3⟩
    rw [parse_R] at hpo
    -- what is read back
    obtain ⟨q, hq, hqr⟩ : ∃ q : Pol, parseR (printF p).data.toList = some q ∧ (p.right = true → q = p) := by
      cases hr : p.right with
      | true => exact ⟨p, print_back hr, fun _ => rfl⟩
      | false => exact ⟨⟨0, 0, 0, 0⟩, by rw [print_wrong hr]; exact parse_empty, fun h => by cases h⟩
    rw [hq] at hpo
    unfold ParseOut at hpo
    subst hpo
    have E3 := Lib.hid (E2.out.trans hx3)
    have BP3 := Lib.hid (BP2.out.ext hx3)
    clear hx3 hq
    obtain ⟨rp, hrp⟩ : ∃ b, p.right = b := ⟨_, rfl⟩
    have hcase : rp = true ∨ rp = false := by cases rp <;> simp
    have HR := Lib.hid (fun w => right_any p w)
    have HWR := Lib.hid (fun h => print_wrong (p := p) h)
    rw [hrp] at HR hqr HWR
    have HQR := Lib.hid hqr
    clear hqr hrp
    -- what the text says
    obtain ⟨a, er, hpo2, har, her⟩ : ∃ (a : Pol) (er : Int), (∀ e, ParseOut (parseF s) e → e = .returned (.tuple #[.agg #[.int .i64 a.d, .int .i64 a.w, .int .i64 a.m, .int .i64 a.y], .int .i64 er])) ∧ a.right = true ∧ (er = 0 ∨ (er = 2 ∧ a = ⟨0, 0, 0, 0⟩)) := by
      rw [parse_R]
      cases hr : parseR s.data.toList with
      | none => exact ⟨⟨0, 0, 0, 0⟩, 2, fun e h => h, rfl, .inr ⟨rfl, rfl⟩⟩
      | some a => exact ⟨a, 0, fun e h => h, parse_right hr, .inl rfl⟩
    have HPO2 := Lib.hid hpo2
    have HPB := Lib.hid (print_back har)
    have HRA := Lib.hid (fun w => right_any a w)
    rw [har] at HRA
    clear hpo2 har
    obtain ⟨p0, p1, p2, p3, plt⟩ := BP3.out.four
    have E4 := Lib.hid (E3.out.alloc (.cells #[.int .i64 q.d, .int .i64 q.w, .int .i64 q.m, .int .i64 q.y] 23))
    have BP4 := Lib.hid (BP3.out.alloc (.cells #[.int .i64 q.d, .int .i64 q.w, .int .i64 q.m, .int .i64 q.y] 23))
    have BQ4 := Lib.hid (Blk.new w3 23 #[.int .i64 q.d, .int .i64 q.w, .int .i64 q.m, .int .i64 q.y])
    rcases hcase with rfl | rfl
    · obtain rfl := HQR.out rfl
      clear HWR
      go_wp2_with fail
      refine (HR.out _).mono ?_
      rintro e w5 ⟨rfl, hx5⟩
      obtain ⟨p0, p1, p2, p3, plt⟩ := (BP4.out.ext hx5).four
      obtain ⟨q0, q1, q2, q3, qlt⟩ := (BQ4.out.ext hx5).four
      have E5 := Lib.hid (E4.out.trans hx5)
      have BP5 := Lib.hid (BP4.out.ext hx5)
      clear hx5
      go_wp2_with fail
      refine (HR.out _).mono ?_
      rintro e w6 ⟨rfl, hx6⟩
      have E6 := Lib.hid (E5.out.trans hx6)
      clear hx6 p0 p1 p2 p3 plt q0 q1 q2 q3 qlt
      go_wp2_with fail
      refine (HPA.out s _ E6.out (by omega)).mono ?_
      rintro e w7 ⟨hpo, hx7⟩
      obtain rfl := HPO2.out _ hpo
      have E7 := Lib.hid ((E6.out.trans hx7).alloc (.cells #[.int .i64 a.d, .int .i64 a.w, .int .i64 a.m, .int .i64 a.y] 23))
      have B7 := Lib.hid (Blk.new w7 23 #[.int .i64 a.d, .int .i64 a.w, .int .i64 a.m, .int .i64 a.y])
      clear hx7 hpo
      go_wp2_with fail
      refine (HPR.out a _ E7.out).mono ?_
      rintro e w8 ⟨rfl, hx8⟩
      have E8 := Lib.hid (E7.out.trans hx8)
      have B8 := Lib.hid (B7.out.ext hx8)
      clear hx8
      go_wp2_with fail
      refine (HPA.out (printF a) _ E8.out (HPZ.out a)).mono ?_
      rintro e w9 ⟨hpo, hx9⟩
      rw [parse_R, HPB.out] at hpo
      unfold ParseOut at hpo
      subst hpo
      have E9 := Lib.hid (E8.out.trans hx9)
      have B9 := Lib.hid (B8.out.ext hx9)
      clear hx9
      obtain ⟨a0, a1, a2, a3, alt⟩ := B9.out.four
      rcases her with rfl | ⟨rfl, rfl⟩
      · go_wp2_with fail
        refine (HRA.out _).mono ?_
        rintro e w10 ⟨rfl, hx10⟩
        obtain ⟨a0, a1, a2, a3, alt⟩ := ((B9.out.alloc (.cells #[.int .i64 a.d, .int .i64 a.w, .int .i64 a.m, .int .i64 a.y] 23)).ext hx10).four
        obtain ⟨b0, b1, b2, b3, blt⟩ := ((Blk.new w9 23 #[.int .i64 a.d, .int .i64 a.w, .int .i64 a.m, .int .i64 a.y]).ext hx10).four
        go_wp2_with fail
        go_ret
        exact ⟨ret_bool (by simp), (E9.out.alloc _).trans hx10⟩
      · go_wp2_with fail
        go_ret
        exact ⟨ret_bool (by simp), E9.out.alloc _⟩
    · have HWP := Lib.hid (fun w1 (h : Ext w w1) => HPR.out p w1 h)
      rw [HWR.out rfl] at HWP
      clear HQR
      go_wp2_with fail
      refine (HR.out _).mono ?_
      rintro e w5 ⟨rfl, hx5⟩
      have E5 := Lib.hid (E4.out.trans hx5)
      have BP5 := Lib.hid (BP4.out.ext hx5)
      obtain ⟨p0, p1, p2, p3, plt⟩ := BP5.out.four
      clear hx5
      go_wp2_with fail
      refine (HR.out _).mono ?_
      rintro e w5' ⟨rfl, hx5⟩
      have E5' := Lib.hid (E5.out.trans hx5)
      have BP5' := Lib.hid (BP5.out.ext hx5)
      obtain ⟨p0, p1, p2, p3, plt⟩ := BP5'.out.four
      clear hx5
      go_wp2_with fail
      refine (HWP.out _ E5'.out).mono ?_
      rintro e w6 ⟨rfl, hx6⟩
      have E6 := Lib.hid (E5'.out.trans hx6)
      clear hx6 p0 p1 p2 p3 plt
      go_wp2_with fail
      refine (HPA.out s _ E6.out (by omega)).mono ?_
      rintro e w7 ⟨hpo, hx7⟩
      obtain rfl := HPO2.out _ hpo
      have E7 := Lib.hid ((E6.out.trans hx7).alloc (.cells #[.int .i64 a.d, .int .i64 a.w, .int .i64 a.m, .int .i64 a.y] 23))
      have B7 := Lib.hid (Blk.new w7 23 #[.int .i64 a.d, .int .i64 a.w, .int .i64 a.m, .int .i64 a.y])
      clear hx7 hpo
      go_wp2_with fail
      refine (HPR.out a _ E7.out).mono ?_
      rintro e w8 ⟨rfl, hx8⟩
      have E8 := Lib.hid (E7.out.trans hx8)
      have B8 := Lib.hid (B7.out.ext hx8)
      clear hx8
      go_wp2_with fail
      refine (HPA.out (printF a) _ E8.out (HPZ.out a)).mono ?_
      rintro e w9 ⟨hpo, hx9⟩
      rw [parse_R, HPB.out] at hpo
      unfold ParseOut at hpo
      subst hpo
      have E9 := Lib.hid (E8.out.trans hx9)
      have B9 := Lib.hid (B8.out.ext hx9)
      clear hx9
      obtain ⟨a0, a1, a2, a3, alt⟩ := B9.out.four
      rcases her with rfl | ⟨rfl, rfl⟩
      · go_wp2_with fail
        refine (HRA.out _).mono ?_
        rintro e w10 ⟨rfl, hx10⟩
        obtain ⟨a0, a1, a2, a3, alt⟩ := ((B9.out.alloc (.cells #[.int .i64 a.d, .int .i64 a.w, .int .i64 a.m, .int .i64 a.y] 23)).ext hx10).four
        obtain ⟨b0, b1, b2, b3, blt⟩ := ((Blk.new w9 23 #[.int .i64 a.d, .int .i64 a.w, .int .i64 a.m, .int .i64 a.y]).ext hx10).four
        go_wp2_with fail
        go_ret
        exact ⟨ret_bool (by simp), (E9.out.alloc _).trans hx10⟩
      · go_wp2_with fail
        go_ret
        exact ⟨ret_bool (by simp), E9.out.alloc _⟩
  · have h3i : (300 : Int) < (s.size : Int) := by omega
    go_wp2_with fail
    go_ret
    exact ⟨rfl, E1.out⟩
end Go.Proofs.YtdnmpkdnfockgaaGreatDoor
