/-
  What PolicyDaily comes to: true.
-/
import Derived.Test.YtdnmpkdnfockgaaGreatDoorDailyG
import Derived.Test.YtdnmpkdnfockgaaGreatDoorMoreT
import Derived.Test.YtdnmpkdnfockgaaGreatDoorShown
import Derived.Test.YtdnmpkdnfockgaaGreatDoorCivil
import Derived.Test.YtdnmpkdnfockgaaGreatDoorMore
namespace Go.Proofs.YtdnmpkdnfockgaaGreatDoor
open Go.RowKit

set_option maxRecDepth 100000 in
set_option maxHeartbeats 4000000 in
theorem daily_any {P : World → Prop} (L : LibAll P) (many : Int) (A : Option Addr) (c : Nat) (l : List Nd) (w : World) (hp : P w) (hl : Sl Nd.enc 3 w A l) (hn : l.length ≤ 9223372036854775807) (htm : ∀ n ∈ l, n.timed) :
    Calls Tryz.prog 4 #[.int .i64 many, .slice A l.length c] w fun e w' => e = .returned (.bool true) ∧ Ext w w' := by
  have HL := Lib.hid L
  have HPW := Lib.hid (fun w1 (h : Ext w w1) => L.s.hold _ _ hp h)
  have HSH := Lib.hid (fun w1 (h : Ext w w1) => shown_any L w1 (L.s.hold _ _ hp h))
  have HGR := Lib.hid (fun w1 (h : Ext w w1) => grown_any A c l 0 w1 (hl.ext h) hn)
  have HT := Lib.hid htm
  obtain ⟨N, hN, hN1⟩ : ∃ N : Nat, max 0 (min many 1000) = (N : Int) ∧ N ≤ 1000 := ⟨(max 0 (min many 1000)).toNat, by omega, by omega⟩
  have HNN := Lib.hid hN
  clear L hp hl htm hN
  go_enter Tryz.func4, Tryz.ntmps4
  go_wp2_with fail
  refine (HSH.out _ (Ext.refl w)).mono ?_
  rintro e w1 ⟨rfl, hx1⟩
  have E1 := Lib.hid hx1
  clear hx1 HSH
  go_wp2_with fail
  rw [HNN.out]
  refine (HGR.out _ E1.out).mono ?_
  rintro e w2 ⟨⟨B, d, rfl, ho⟩, hx2⟩
  have hml : min l.length 50 ≤ l.length := Nat.min_le_left ..
  have hm50 : min l.length 50 ≤ 50 := Nat.min_le_right ..
  have hgl := linksF_len l hml
  have hgn := linksF_name (l := l) (k := min l.length 50)
  have hgt := linksF_timed (k := min l.length 50) HT.out
  have hgr := linksF_root l (min l.length 50)
  have hgg := linksF_ghost (l := l) (k := min l.length 50)
  generalize min l.length 50 = m at *
  have hlv : 1 + max 0 (min 0 (m : Int)) = 1 := by omega
  obtain ⟨nx, hnx⟩ : ∃ nx, (m : Int) + 2 = nx := ⟨_, rfl⟩
  rw [hlv, hnx]
  clear hlv hnx
  generalize (l.take m).mapIdx nodeL = rest at *
  generalize linksF l m = G at *
  have hGl : G.length = m + 1 := hgl
  have hd : m + 1 ≤ d := by
    obtain ⟨A', c', he, hle⟩ := ho.slice
    injection he with _ _ hc
    omega
  have S2 := Lib.hid (ho.sl' Lk.enc_len)
  have E2 := Lib.hid (E1.out.trans hx2)
  have HGN := Lib.hid hgn
  have HGT := Lib.hid hgt
  have HGR' := Lib.hid hgr
  have HGG := Lib.hid hgg
  clear ho hx2 E1 hgn hgt hgr hgg hgl HGR HT
  have HTR := Lib.hid (fun w1 (h : Ext w w1) (hs : Sl Lk.enc 6 w1 B G) => treeRight_any HL.out.c.valid B d G 1 nx 0 w1 hs (by omega) (by omega) (HL.out.tabs _ (HPW.out _ h)) HGN.out)
  rw [hGl] at HTR
  have hcase : treeOk G 1 nx = false ∨ treeOk G 1 nx = true := by cases treeOk G 1 nx <;> simp
  obtain ⟨rt, hrt⟩ : ∃ b, treeOk G 1 nx = b := ⟨_, rfl⟩
  rw [hrt] at HTR hcase
  have HRR := Lib.hid hrt
  clear hrt
  go_wp2_with fail
  have hxt := (Ext.refl w2).alloc (.cells #[.slice B (m + 1) d, .int .i64 1, .int .i64 nx, .int .u64 0] 29)
  have hbt := Blk.new w2 29 #[.slice B (m + 1) d, .int .i64 1, .int .i64 nx, .int .u64 0]
  refine (HTR.out _ (E2.out.trans hxt) (S2.out.ext hxt)).mono ?_
  rintro e w3 ⟨rfl, hx3⟩
  have X3 := Lib.hid (hxt.trans hx3)
  have BT3 := Lib.hid (hbt.ext hx3)
  clear hxt hbt hx3
  obtain ⟨t0, t1, t2, t3, tlt⟩ := BT3.out.c4
  rcases hcase with rfl | rfl
  · go_wp2_with fail
    go_ret
    exact ⟨rfl, E2.out.trans X3.out⟩
  · have r3 := HRR.out
    have hr1 : Pol.right ⟨N, 0, 0, 0⟩ = true := by unfold Pol.right okN; simp; omega
    have hg1 := HGR'.out
    have hrise := treeOk_rise r3
    rw [hg1, List.pairwise_cons] at hrise
    have hlaw := daily_law (n := N) hrise.2 (fun x hx => by have := hrise.1 x hx; have h2 : rootL.id = 1 := rfl; omega) HGG.out
    have hkf : keepF ⟨N, 0, 0, 0⟩ G 1 = keepOf ⟨N, 0, 0, 0⟩ 1 rest (srt rest) := by
      unfold keepF
      rw [hg1, List.drop_succ_cons, List.drop_zero, cand_left HGG.out]
    rw [← hkf] at hlaw
    have HK := Lib.hid (fun w1 (h : Ext w2 w1) => keep_ok HL.out.c ⟨N, 0, 0, 0⟩ B (m + 1) d G 1 nx 0 w1 hGl (S2.out.ext h) hd (HL.out.tabs _ (HPW.out _ (E2.out.trans h))) HGN.out HGT.out hr1 r3)
    have hkn := keepF_len (p := ⟨N, 0, 0, 0⟩) (l := G) (live := 1) (treeOk_len r3).2
    have hrl : rest.length = m := by have := congrArg List.length hg1; rw [List.length_cons, hGl] at this; omega
    have HGi := Lib.hid (fun (k : Nat) (h : k < rest.length) => (show ∀ h2 : k + 1 < G.length, G[k + 1] = rest[k] from fun h2 => by simp [hg1]))
    have HLAW := Lib.hid hlaw
    clear hkf hlaw hrise hg1 hr1 r3
    generalize keepF ⟨N, 0, 0, 0⟩ G 1 = kp at *
    go_wp2_with fail
    refine (HK.out _ X3.out).mono ?_
    rintro e w4 ⟨⟨gk, ck, rfl, hk⟩, hx4⟩
    have X4 := Lib.hid (X3.out.trans hx4)
    have BT4 := Lib.hid (BT3.out.ext hx4)
    have KP4 := Lib.hid (hk.sl' encI_len)
    clear hk hx4 t0 t1 t2 t3 tlt
    obtain ⟨t0, t1, t2, t3, tlt⟩ := BT4.out.c4
    have HDS := Lib.hid (fun j (h : j < rest.length) => daysF_snoc rest h)
    have HDL := Lib.hid (fun j => Nat.le_trans (daysF_len (rest.take j)) (by rw [List.length_take]; exact Nat.min_le_left ..))
    go_wp2_with fail
    clear t0 t1 t2 t3 tlt
    go_loopw [10, 9] (fun v10 v9 wr => ∃ k : Nat, 1 ≤ k ∧ k ≤ m + 1 ∧ v10 = .int .i64 k ∧ Hid (Own encI 3 1 wr w4.heap.size v9 (daysF (rest.take (k - 1)))) ∧ Hid (Ext w4 wr)) (fun v10 _ _ => m + 1 - (intOf v10).toNat)
    case atStart => exact ⟨1, by omega, by omega, rfl, Own.nil, Ext.refl w4⟩
    case round =>
      obtain ⟨k, hk1, hk2, rfl, HO, HE⟩ := hrel
      obtain ⟨t0, t1, t2, t3, tlt⟩ := (BT4.out.ext HE.out).c4
      by_cases hlt : k < m + 1
      · obtain ⟨ad, rfl, hbb, x0, x1, x2, x3, x4, x5⟩ := Sl.at6 (S2.out.ext (X4.out.trans HE.out)) (show k < G.length by omega)
        have hj : k - 1 < rest.length := by omega
        have hxe : G[k] = rest[k - 1] := by
          have h := HGi.out (k - 1) hj (by omega)
          rw [← h]
          congr 1
          omega
        have hds := HDS.out (k - 1) hj
        rw [show k - 1 + 1 = k from by omega] at hds
        have hdl : (daysF (rest.take (k - 1))).length ≤ 60 := Nat.le_trans (HDL.out _) (by omega)
        have hkk : k + 1 - 1 = k := by omega
        have htm := HGT.out G[k] (List.getElem_mem _)
        rw [← hxe] at hds
        clear hxe
        generalize G[k] = x at *
        have hw8 := HE.out.size
        obtain ⟨ht0, ht1⟩ := htm
        have HB := Lib.hid (fun w1 => bucket15_any x.time w1 ht0 ht1)
        have HDD : Hid (dayOf x = x.time / 86400) := Lib.hid rfl
        have HDSx := Lib.hid hds
        clear hds
        generalize daysF (rest.take (k - 1)) = ds at *
        obtain ⟨C, cc, rfl, _⟩ := HO.out.slice
        obtain ⟨dx, hdx⟩ : ∃ dx, x.time / 86400 = dx := ⟨_, rfl⟩
        rw [hdx] at HB HDD
        clear hdx
        have HIN := Lib.hid (fun w1 (h : Sl encI 1 w1 C ds) => in_any C cc ds dx w1 h (by omega))
        have hin : dx ∈ ds ∨ ¬ dx ∈ ds := Classical.em _
        rcases hin with hin | hin
        · have HI := Lib.hid hin
          clear hin
          go_wp2_with fail
          refine (HB.out _).mono ?_
          rintro e w5 ⟨rfl, rfl⟩
          go_wp2_with fail
          refine (HIN.out _ (HO.out.sl' encI_len)).mono ?_
          rintro e w5 ⟨rfl, rfl⟩
          rw [decide_eq_true HI.out]
          go_wp2_with fail
          go_roundw
          case measure => simp [intOf]; omega
          case rel => exact ⟨k + 1, by omega, by omega, by go_num, Lib.hid (by rw [hkk, HDSx.out]; unfold addD; rw [HDD.out, if_pos HI.out]; exact HO.out), HE⟩
        · have HI := Lib.hid hin
          clear hin
          go_wp2_with fail
          refine (HB.out _).mono ?_
          rintro e w5 ⟨rfl, rfl⟩
          go_wp2_with fail
          refine (HIN.out _ (HO.out.sl' encI_len)).mono ?_
          rintro e w5 ⟨rfl, rfl⟩
          rw [decide_eq_false HI.out]
          go_wp2_with (at_builtin; go_must (refine wp_app rfl (.tmp 54) (.tmp 56) 33 rfl Tryz.underlying33 info_int rfl (by decide) encI_len encI_one w4.heap.size (.slice C ds.length cc) ds rfl (HO.out.alloc _) _ 1 1 [dx] rfl rfl (Sl.one _ 3 dx _ rfl (by simp)) (by simp; omega) (by simp; omega) (by simp; omega) ?_; intro v6 w6 hown6 hg6 _; have HO6 := Lib.hid hown6; have HE6 := Lib.hid (Own.step (HO.out.alloc _) (HE.out.alloc _) hg6); clear hown6 hg6))
          go_roundw
          case measure => simp [intOf]; omega
          case rel => exact ⟨k + 1, by omega, by omega, by go_num, Lib.hid (by rw [hkk, HDSx.out]; unfold addD; rw [HDD.out, if_neg HI.out]; exact HO6.out), HE6⟩
      · have hk3 : k - 1 = rest.length := by omega
        rw [hk3, List.take_length] at HO
        have hdl := daysF_len rest
        have X8 := Lib.hid (X4.out.trans HE.out)
        obtain ⟨C, cc, rfl, _⟩ := HO.out.slice
        have HLL := HLAW.out
        have HDY := Lib.hid (HO.out.sl' encI_len)
        have KP8 := Lib.hid (KP4.out.ext HE.out)
        have BT8 := Lib.hid (BT4.out.ext HE.out)
        clear HO HDS HDL HLAW hk3
        obtain ⟨hone, hnone, hpins, hmany, hlen⟩ := HLL
        have HL1 := Lib.hid hone
        have HL2 := Lib.hid hnone
        have HL3 := Lib.hid hpins
        have HL4 := Lib.hid hmany
        have HL5 := Lib.hid hlen
        clear hone hnone hpins hmany hlen
        have hdl2 : (daysF rest).length ≤ 60 := by omega
        generalize daysF rest = ds at *
        go_wp2_with fail
        clear t0 t1 t2 t3 tlt
        obtain ⟨w8, e8⟩ : ∃ w8, w8 = wr := ⟨_, rfl⟩
        subst e8
        go_loopw [12, 0] (fun v12 v0 wq => ∃ i : Nat, i ≤ ds.length ∧ v12 = .int .i64 i ∧ v0 = .int .i64 (((ds.take i).filter (fun d => decide (latD ds d < N))).length : Nat) ∧ Hid (Ext w8 wq)) (fun v12 _ _ => ds.length - (intOf v12).toNat)
        case atStart => exact ⟨0, by omega, rfl, rfl, Ext.refl w8⟩
        case round =>
          obtain ⟨i, hi, rfl, rfl, HQ⟩ := hrel
          by_cases hil : i < ds.length
          · have hms := filt_snocI (fun d => decide (latD ds d < N)) ds hil
            have HM := Lib.hid hms
            have hmq : ((ds.take i).filter (fun d => decide (latD ds d < N))).length ≤ 60 := Nat.le_trans (List.length_filter_le _ _) (by rw [List.length_take]; omega)
            clear hms
            generalize ((ds.take i).filter (fun d => decide (latD ds d < N))).length = mq at *
            obtain ⟨di, hdi⟩ : ∃ di, ds[i] = di := ⟨_, rfl⟩
            rw [hdi] at HM
            have HDI := Lib.hid (fun wz (h : Ext w8 wz) => (HDY.out.ext h).at1 hil)
            rw [hdi] at HDI
            obtain ⟨ad, had, _, _⟩ := HDI.out _ HQ.out
            subst had
            clear hdi
            go_wp2_with fail
            go_loopw [14, 13] (fun v14 v13 wz => ∃ k : Nat, k ≤ ds.length ∧ v14 = .int .i64 k ∧ v13 = .int .i64 (((ds.take k).filter (fun e => decide (di < e))).length : Nat) ∧ Hid (Ext w8 wz)) (fun v14 _ _ => ds.length - (intOf v14).toNat)
            case atStart => exact ⟨0, by omega, rfl, rfl, HQ⟩
            case round =>
              obtain ⟨k, hk, rfl, rfl, HZ⟩ := hrel
              by_cases hkl : k < ds.length
              · have hls := filt_snocI (fun e => decide (di < e)) ds hkl
                have hlq : ((ds.take k).filter (fun e => decide (di < e))).length ≤ 60 := Nat.le_trans (List.length_filter_le _ _) (by rw [List.length_take]; omega)
                generalize ((ds.take k).filter (fun e => decide (di < e))).length = lq at *
                obtain ⟨ad2, had2, hb2, x0⟩ := (HDY.out.ext HZ.out).at1 hkl
                obtain ⟨ad3, had3, hb3, y0⟩ := HDI.out _ HZ.out
                injection had2 with had2
                injection had3 with had3
                subst had2 had3
                generalize ds[k] = ek at *
                have HLS := Lib.hid hls
                clear hls
                have gx := EW.cell x0
                have gy := EW.cell y0
                clear x0 y0
                go_upto_region 22 with (fail)
                have hc : di < ek ∨ ek ≤ di := by omega
                rcases hc with hc | hc
                · refine wp_region_ext (by kernel_rfl) (by kernel_rfl) ?_
                  repeat (go_big_quiet_step (fail))
                  refine wpQuiet_nil ?_
                  rintro _ ⟨y1, rfl⟩
                  go_wp2_with fail
                  go_roundw
                  case measure => simp [intOf]; omega
                  case rel => exact ⟨k + 1, by omega, by go_num, by rw [HLS.out, if_pos (decide_eq_true hc)]; go_num, HZ.out.trans y1.h⟩
                · refine wp_region_ext (by kernel_rfl) (by kernel_rfl) ?_
                  repeat (go_big_quiet_step (fail))
                  refine wpQuiet_nil ?_
                  rintro _ ⟨y1, rfl⟩
                  go_wp2_with fail
                  go_roundw
                  case measure => simp [intOf]; omega
                  case rel => exact ⟨k + 1, by omega, by go_num, by rw [HLS.out, if_neg (by simp; omega)]; rfl, HZ.out.trans y1.h⟩
              · obtain rfl : k = ds.length := by omega
                have hlat : ((ds.take ds.length).filter (fun e => decide (di < e))).length = latD ds di := by rw [List.take_length]; rfl
                rw [hlat]
                have hle : latD ds di ≤ 60 := Nat.le_trans (List.length_filter_le _ _) hdl2
                have h1 := HL1.out di
                have h2 := HL2.out di
                clear hlat
                obtain ⟨la, hla⟩ : ∃ la, latD ds di = la := ⟨_, rfl⟩
                rw [hla] at hle h2 ⊢
                have HLA := Lib.hid hla
                clear hla
                obtain ⟨t0, t1, t2, t3, tlt⟩ := (BT8.out.ext HZ.out).c4
                go_wp2_with fail
                clear t0 t1 t2 t3 tlt
                go_loopw [16, 15] (fun v16 v15 wy => ∃ k : Nat, 1 ≤ k ∧ k ≤ m + 1 ∧ v16 = .int .i64 k ∧ v15 = .int .i64 (((rest.take (k - 1)).filter (keptP kp di)).length : Nat) ∧ Hid (Ext w8 wy)) (fun v16 _ _ => m + 1 - (intOf v16).toNat)
                case atStart => exact ⟨1, by omega, by omega, rfl, rfl, HZ⟩
                case round =>
                  obtain ⟨k, hk1, hk2, rfl, rfl, HY⟩ := hrel
                  obtain ⟨t0, t1, t2, t3, tlt⟩ := (BT8.out.ext HY.out).c4
                  by_cases hkl : k < m + 1
                  · obtain ⟨adx, hadx, hbb, x0, x1, x2, x3, x4, x5⟩ := Sl.at6 (S2.out.ext (X8.out.trans HY.out)) (show k < G.length by omega)
                    have hj : k - 1 < rest.length := by omega
                    have hxe : G[k] = rest[k - 1] := by
                      have h := HGi.out (k - 1) hj (by omega)
                      rw [← h]
                      congr 1
                      omega
                    have hks := filt_snocI (keptP kp di) rest hj
                    rw [show k - 1 + 1 = k from by omega] at hks
                    have hkk : k + 1 - 1 = k := by omega
                    have htm := HGT.out G[k] (List.getElem_mem _)
                    have hpi := HL3.out rest[k - 1] (List.getElem_mem _)
                    rw [← hxe] at hks hpi
                    clear hxe
                    have hkq : ((rest.take (k - 1)).filter (keptP kp di)).length ≤ 60 := Nat.le_trans (List.length_filter_le _ _) (by rw [List.length_take]; omega)
                    generalize ((rest.take (k - 1)).filter (keptP kp di)).length = kq at *
                    generalize G[k] = x at *
                    subst hadx
                    obtain ⟨ht0, ht1⟩ := htm
                    have HKP : Hid (keptP kp di x = (x.time / 86400 == di && (decide (x.id ∈ kp) && !x.pin))) := Lib.hid rfl
                    have HB := Lib.hid (fun w1 => (bucket15_any x.time w1 ht0 ht1).mono fun e w' (h : _ ∧ w1 = w') => (⟨h.1, h.2 ▸ Ext.refl w1⟩ : e = _ ∧ Ext w1 w'))
                    have HIN := Lib.hid (fun w1 (h : Ext w8 w1) => (in_any (some ⟨gk, 0, none⟩) ck kp x.id w1 (KP8.out.ext h) (by omega)).mono fun e w' (h : _ ∧ w1 = w') => (⟨h.1, h.2 ▸ Ext.refl w1⟩ : e = _ ∧ Ext w1 w'))
                    obtain ⟨dx, hdx⟩ : ∃ dx, x.time / 86400 = dx := ⟨_, rfl⟩
                    rw [hdx] at HB HKP
                    clear hdx ht1
                    obtain ⟨bi, hbi⟩ : ∃ b, decide (x.id ∈ kp) = b := ⟨_, rfl⟩
                    rw [hbi] at HIN HKP
                    have hcase : (bi = true ∧ x.pin = true) ∨ (bi = true ∧ x.pin = false) ∨ (bi = false ∧ x.pin = false) := by
                      cases hb : bi <;> cases hp : x.pin <;> simp
                      rw [hb, decide_eq_false_iff_not] at hbi
                      exact hbi (hpi hp)
                    have HKS := Lib.hid hks
                    clear hbi hks hpi
                    have hdd : (dx == di) = true ∨ (dx == di) = false := by cases (dx == di) <;> simp
                    rcases hcase with ⟨rfl, hpn⟩ | ⟨rfl, hpn⟩ | ⟨rfl, hpn⟩
                    · obtain ⟨i0, pa, nm, ti, gh, pn⟩ := x
                      dsimp only at hpn ht0 x0 x1 x2 x3 x4 x5 HKP HB HIN HKS
                      subst hpn
                      rcases hdd with hdd | hdd
                      all_goals
                        go_upto_region 29 with (fail)
                        have hbx := Blk.new wr 37 #[.int .i64 i0, .int .i64 pa, .string nm, .int .u64 ti, .bool gh, .bool true]
                        have c0 : (wr.alloc (.cells #[.int .i64 i0, .int .i64 pa, .string nm, .int .u64 ti, .bool gh, .bool true] 37)).cell? ⟨wr.heap.size, 0, none⟩ = some (.int .i64 i0) := hbx.cell 0
                        have c3 : (wr.alloc (.cells #[.int .i64 i0, .int .i64 pa, .string nm, .int .u64 ti, .bool gh, .bool true] 37)).cell? ⟨wr.heap.size, 3, none⟩ = some (.int .u64 ti) := hbx.cell 3
                        have c5 : (wr.alloc (.cells #[.int .i64 i0, .int .i64 pa, .string nm, .int .u64 ti, .bool gh, .bool true] 37)).cell? ⟨wr.heap.size, 5, none⟩ = some (.bool true) := hbx.cell 5
                        have hWX : Ext w8 (wr.alloc (.cells #[.int .i64 i0, .int .i64 pa, .string nm, .int .u64 ti, .bool gh, .bool true] 37)) := HY.out.alloc _
                        obtain ⟨ad3, had3, hb3, y0⟩ := HDI.out _ hWX
                        injection had3 with had3
                        subst had3
                        have HWX := Lib.hid hWX
                        have g0 := EW.cell c0
                        have g3 := EW.cell c3
                        have g5 := EW.cell c5
                        have gy := EW.cell y0
                        clear y0 hbx c0 c3 c5 hWX x0 x1 x2 x3 x4 x5 t0 t1 t2 t3 tlt
                        refine wp_region_ext (by kernel_rfl) (by kernel_rfl) ?_
                        repeat (go_big_quiet_step ((first | (go_at_call 17; exact EW.calls _ (HB.out _)) | (go_at_call 13; exact EW.calls _ (HIN.out _ (HWX.out.trans (EW.h _)))))))
                        refine wpQuiet_nil ?_
                        rintro _ ⟨y1, rfl⟩
                        go_wp2_with fail
                        refine (HIN.out _ (HWX.out.trans (EW.h _))).mono ?_
                        rintro e w9 ⟨rfl, hx9⟩
                        go_wp2_with fail
                        go_roundw
                        case measure => simp [intOf]; omega
                        case rel => exact ⟨k + 1, by omega, by omega, by go_num, by rw [hkk, HKS.out, HKP.out, hdd]; first | rfl | (simp; try go_num), HWX.out.trans (y1.h.trans hx9)⟩
                    · obtain ⟨i0, pa, nm, ti, gh, pn⟩ := x
                      dsimp only at hpn ht0 x0 x1 x2 x3 x4 x5 HKP HB HIN HKS
                      subst hpn
                      rcases hdd with hdd | hdd
                      all_goals
                        go_upto_region 29 with (fail)
                        have hbx := Blk.new wr 37 #[.int .i64 i0, .int .i64 pa, .string nm, .int .u64 ti, .bool gh, .bool false]
                        have c0 : (wr.alloc (.cells #[.int .i64 i0, .int .i64 pa, .string nm, .int .u64 ti, .bool gh, .bool false] 37)).cell? ⟨wr.heap.size, 0, none⟩ = some (.int .i64 i0) := hbx.cell 0
                        have c3 : (wr.alloc (.cells #[.int .i64 i0, .int .i64 pa, .string nm, .int .u64 ti, .bool gh, .bool false] 37)).cell? ⟨wr.heap.size, 3, none⟩ = some (.int .u64 ti) := hbx.cell 3
                        have c5 : (wr.alloc (.cells #[.int .i64 i0, .int .i64 pa, .string nm, .int .u64 ti, .bool gh, .bool false] 37)).cell? ⟨wr.heap.size, 5, none⟩ = some (.bool false) := hbx.cell 5
                        have hWX : Ext w8 (wr.alloc (.cells #[.int .i64 i0, .int .i64 pa, .string nm, .int .u64 ti, .bool gh, .bool false] 37)) := HY.out.alloc _
                        obtain ⟨ad3, had3, hb3, y0⟩ := HDI.out _ hWX
                        injection had3 with had3
                        subst had3
                        have HWX := Lib.hid hWX
                        have g0 := EW.cell c0
                        have g3 := EW.cell c3
                        have g5 := EW.cell c5
                        have gy := EW.cell y0
                        clear y0 hbx c0 c3 c5 hWX x0 x1 x2 x3 x4 x5 t0 t1 t2 t3 tlt
                        refine wp_region_ext (by kernel_rfl) (by kernel_rfl) ?_
                        repeat (go_big_quiet_step ((first | (go_at_call 17; exact EW.calls _ (HB.out _)) | (go_at_call 13; exact EW.calls _ (HIN.out _ (HWX.out.trans (EW.h _)))))))
                        refine wpQuiet_nil ?_
                        rintro _ ⟨y1, rfl⟩
                        go_wp2_with fail
                        go_roundw
                        case measure => simp [intOf]; omega
                        case rel => exact ⟨k + 1, by omega, by omega, by go_num, by rw [hkk, HKS.out, HKP.out, hdd]; first | rfl | (simp; try go_num), HWX.out.trans y1.h⟩
                    · obtain ⟨i0, pa, nm, ti, gh, pn⟩ := x
                      dsimp only at hpn ht0 x0 x1 x2 x3 x4 x5 HKP HB HIN HKS
                      subst hpn
                      rcases hdd with hdd | hdd
                      all_goals
                        go_upto_region 29 with (fail)
                        have hbx := Blk.new wr 37 #[.int .i64 i0, .int .i64 pa, .string nm, .int .u64 ti, .bool gh, .bool false]
                        have c0 : (wr.alloc (.cells #[.int .i64 i0, .int .i64 pa, .string nm, .int .u64 ti, .bool gh, .bool false] 37)).cell? ⟨wr.heap.size, 0, none⟩ = some (.int .i64 i0) := hbx.cell 0
                        have c3 : (wr.alloc (.cells #[.int .i64 i0, .int .i64 pa, .string nm, .int .u64 ti, .bool gh, .bool false] 37)).cell? ⟨wr.heap.size, 3, none⟩ = some (.int .u64 ti) := hbx.cell 3
                        have c5 : (wr.alloc (.cells #[.int .i64 i0, .int .i64 pa, .string nm, .int .u64 ti, .bool gh, .bool false] 37)).cell? ⟨wr.heap.size, 5, none⟩ = some (.bool false) := hbx.cell 5
                        have hWX : Ext w8 (wr.alloc (.cells #[.int .i64 i0, .int .i64 pa, .string nm, .int .u64 ti, .bool gh, .bool false] 37)) := HY.out.alloc _
                        obtain ⟨ad3, had3, hb3, y0⟩ := HDI.out _ hWX
                        injection had3 with had3
                        subst had3
                        have HWX := Lib.hid hWX
                        have g0 := EW.cell c0
                        have g3 := EW.cell c3
                        have g5 := EW.cell c5
                        have gy := EW.cell y0
                        clear y0 hbx c0 c3 c5 hWX x0 x1 x2 x3 x4 x5 t0 t1 t2 t3 tlt
                        refine wp_region_ext (by kernel_rfl) (by kernel_rfl) ?_
                        repeat (go_big_quiet_step ((first | (go_at_call 17; exact EW.calls _ (HB.out _)) | (go_at_call 13; exact EW.calls _ (HIN.out _ (HWX.out.trans (EW.h _)))))))
                        refine wpQuiet_nil ?_
                        rintro _ ⟨y1, rfl⟩
                        go_wp2_with fail
                        go_roundw
                        case measure => simp [intOf]; omega
                        case rel => exact ⟨k + 1, by omega, by omega, by go_num, by rw [hkk, HKS.out, HKP.out, hdd]; first | rfl | (simp; try go_num), HWX.out.trans y1.h⟩
                  · have hk3 : k - 1 = rest.length := by omega
                    have hkd : ((rest.take (k - 1)).filter (keptP kp di)).length = (rest.filter (keptP kp di)).length := by rw [hk3, List.take_length]
                    rw [hkd]
                    clear hkd hk3
                    generalize (rest.filter (keptP kp di)).length = kd at *
                    have hcase : (kd = 0 ∧ la < N) ∨ (kd = 0 ∧ N ≤ la) ∨ (kd = 1 ∧ la < N) := by omega
                    have HH2 := Lib.hid h2
                    clear h2
                    rcases hcase with ⟨rfl, hc⟩ | ⟨rfl, hc⟩ | ⟨rfl, hc⟩
                    · go_wp2_with fail
                      go_roundw
                      case measure => simp [intOf]; omega
                      case rel => exact ⟨i + 1, by omega, by go_num, by rw [HM.out, if_pos (decide_eq_true (by rw [HLA.out]; exact hc))]; go_num, HY⟩
                    · go_wp2_with fail
                      go_roundw
                      case measure => simp [intOf]; omega
                      case rel => exact ⟨i + 1, by omega, by go_num, by rw [HM.out, if_neg (by rw [decide_eq_true_eq, HLA.out]; omega)]; rfl, HY⟩
                    · go_wp2_with fail
                      go_roundw
                      case measure => simp [intOf]; omega
                      case rel => exact ⟨i + 1, by omega, by go_num, by rw [HM.out, if_pos (decide_eq_true (by rw [HLA.out]; exact hc))]; go_num, HY⟩
          · obtain rfl : i = ds.length := by omega
            have hm2 : ((ds.take ds.length).filter (fun d => decide (latD ds d < N))).length = manyD ds N := by rw [List.take_length]; rfl
            rw [hm2]
            have h4 := HL4.out
            have h5 := HL5.out
            clear hm2
            generalize manyD ds N = mm at *
            have hbq : ((mm : Int) == min (N : Int) (ds.length : Int)) = true := beq_iff_eq.2 (by omega)
            have h6 : (1 : Int) + (mm : Int) ≤ (kp.length : Int) := by omega
            have HH4 := Lib.hid h4
            clear h4 h5
            go_wp2_with fail
            go_ret
            refine ⟨?_, E2.out.trans (X8.out.trans HQ.out)⟩
            simp_all
end Go.Proofs.YtdnmpkdnfockgaaGreatDoor
