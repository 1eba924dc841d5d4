/-
  What PolicyMore comes to: true.
-/
import Derived.Test.YtdnmpkdnfockgaaGreatDoorMoreT
import Derived.Test.YtdnmpkdnfockgaaGreatDoorShown
import Derived.Lib.MinMax
namespace Go.Proofs.YtdnmpkdnfockgaaGreatDoor
open Go.RowKit

def Pol.more (p q : Pol) : Pol := ⟨max p.d q.d, max p.w q.w, max p.m q.m, max p.y q.y⟩
theorem more_right {p q : Pol} (hp : p.right = true) (hq : q.right = true) : (p.more q).right = true := by
  unfold Pol.right okN at *
  simp only [Bool.and_eq_true, decide_eq_true_eq] at *
  unfold Pol.more
  dsimp only
  omega
theorem more_le (p q : Pol) : ∀ t, t < 4 → p.nth t ≤ (p.more q).nth t := by
  intro t ht
  have : t = 0 ∨ t = 1 ∨ t = 2 ∨ t = 3 := by omega
  rcases this with rfl | rfl | rfl | rfl <;> exact Int.le_max_left _ _

theorem Blk.c4 {w : World} {g : Nat} {t : TypeId} {a b c d : Value} (h : Blk w g t #[a, b, c, d]) : w.cell? ⟨g, 0, none⟩ = some a ∧ w.cell? ⟨g, 1, none⟩ = some b ∧ w.cell? ⟨g, 2, none⟩ = some c ∧ w.cell? ⟨g, 3, none⟩ = some d ∧ g < w.heap.size :=
  ⟨h.cell 0, h.cell 1, h.cell 2, h.cell 3, h.lt⟩

theorem new_field (F : Option Addr) (ff : Nat) (W : World) : (Instr.field 41 (.agg #[.slice F 1 ff, .int .i64 1, .int .i64 2, .int .u64 0]) 0).run Tryz.prog W = .ok (.slice F 1 ff) W := by kernel_rfl

set_option maxRecDepth 100000 in
set_option maxHeartbeats 4000000 in
theorem more_any {P : World → Prop} (L : LibAll P) (p q : Pol) (A : Option Addr) (c : Nat) (l : List Nd) (live : Int) (w : World) (hp : P w) (hl : Sl Nd.enc 3 w A l) (hn : l.length ≤ 9223372036854775807) (htm : ∀ n ∈ l, n.timed) :
    Calls Tryz.prog 3 #[.agg #[.int .i64 p.d, .int .i64 p.w, .int .i64 p.m, .int .i64 p.y], .agg #[.int .i64 q.d, .int .i64 q.w, .int .i64 q.m, .int .i64 q.y], .slice A l.length c, .int .i64 live] w fun e w' => e = .returned (.bool true) ∧ Ext w w' := by
  have HL := Lib.hid L
  have HPW := Lib.hid (fun w1 (h : Ext w w1) => L.s.hold _ _ hp h)
  have HN := Lib.hid (fun w1 (h : Ext w w1) => hl.ext h)
  have HSH := Lib.hid (fun w1 (h : Ext w w1) => shown_any L w1 (L.s.hold _ _ hp h))
  have HGR := Lib.hid (fun w1 (h : Ext w w1) => grown_any A c l live w1 (hl.ext h) hn)
  have HT := Lib.hid htm
  clear L hp hl htm
  go_enter Tryz.func3, Tryz.ntmps3
  go_wp2_with fail
  have E0 := ((Ext.refl w).alloc (.cells #[.int .i64 p.d, .int .i64 p.w, .int .i64 p.m, .int .i64 p.y] 23)).alloc (.cells #[.int .i64 q.d, .int .i64 q.w, .int .i64 q.m, .int .i64 q.y] 23)
  have bp := (Blk.new w 23 #[.int .i64 p.d, .int .i64 p.w, .int .i64 p.m, .int .i64 p.y]).alloc (.cells #[.int .i64 q.d, .int .i64 q.w, .int .i64 q.m, .int .i64 q.y] 23)
  have bq := Blk.at_ (w.alloc (.cells #[.int .i64 p.d, .int .i64 p.w, .int .i64 p.m, .int .i64 p.y] 23)) 23 #[.int .i64 q.d, .int .i64 q.w, .int .i64 q.m, .int .i64 q.y] (g := w.heap.size + 1) (by simp)
  refine (HSH.out _ E0).mono ?_
  rintro e w1 ⟨rfl, hx1⟩
  have E1 := Lib.hid (E0.trans hx1)
  have BP1 := Lib.hid (bp.ext hx1)
  have BQ1 := Lib.hid (bq.ext hx1)
  clear E0 bp bq hx1 HSH
  go_wp2_with fail
  refine (HGR.out _ E1.out).mono ?_
  rintro e w2 ⟨⟨B, d, rfl, ho⟩, hx2⟩
  have hml : min l.length 50 ≤ l.length := Nat.min_le_left ..
  have hm50 : min l.length 50 ≤ 50 := Nat.min_le_right ..
  have hgl := linksF_len l hml
  have hgn := linksF_name (l := l) (k := min l.length 50)
  have hgt := linksF_timed (k := min l.length 50) HT.out
  have hgr := linksF_root l (min l.length 50)
  have hgg := linksF_ghost (l := l) (k := min l.length 50)
  generalize min l.length 50 = m at *
  obtain ⟨lv, hlv⟩ : ∃ lv, 1 + max 0 (min live (m : Int)) = lv := ⟨_, rfl⟩
  obtain ⟨nx, hnx⟩ : ∃ nx, (m : Int) + 2 = nx := ⟨_, rfl⟩
  rw [hlv, hnx]
  clear hlv hnx
  generalize (l.take m).mapIdx nodeL = rest at *
  generalize linksF l m = G at *
  have hGl : G.length = m + 1 := hgl
  have hd : m + 1 ≤ d := by
    obtain ⟨A', c', he, hle⟩ := ho.slice
    injection he with _ _ hc
    omega
  have S2 := Lib.hid (ho.sl' Lk.enc_len)
  have E2 := Lib.hid (E1.out.trans hx2)
  have BP2 := Lib.hid (BP1.out.ext hx2)
  have BQ2 := Lib.hid (BQ1.out.ext hx2)
  have HGN := Lib.hid hgn
  have HGT := Lib.hid hgt
  have HGR' := Lib.hid hgr
  have HGG := Lib.hid hgg
  clear ho hx2 E1 BP1 BQ1 hgn hgt hgr hgg hgl HGR HT HN
  have hcase : p.right = false ∨ (p.right = true ∧ q.right = false) ∨ (p.right = true ∧ q.right = true ∧ treeOk G lv nx = false) ∨ (p.right = true ∧ q.right = true ∧ treeOk G lv nx = true) := by
    cases p.right <;> cases q.right <;> cases treeOk G lv nx <;> simp
  have HRp := Lib.hid (fun w => right_any p w)
  have HRq := Lib.hid (fun w => right_any q w)
  have HTR := Lib.hid (fun w1 (h : Ext w w1) (hs : Sl Lk.enc 6 w1 B G) => treeRight_any HL.out.c.valid B d G lv nx 0 w1 hs (by omega) (by omega) (HL.out.tabs _ (HPW.out _ h)) HGN.out)
  rw [hGl] at HTR
  obtain ⟨rp, hrp⟩ : ∃ b, p.right = b := ⟨_, rfl⟩
  obtain ⟨rq, hrq⟩ : ∃ b, q.right = b := ⟨_, rfl⟩
  obtain ⟨rt, hrt⟩ : ∃ b, treeOk G lv nx = b := ⟨_, rfl⟩
  rw [hrp] at HRp hcase
  rw [hrq] at HRq hcase
  rw [hrt] at HTR hcase
  have HRR := Lib.hid (And.intro hrp (And.intro hrq hrt))
  clear hrp hrq hrt
  obtain ⟨p0, p1, p2, p3, plt⟩ := BP2.out.c4
  obtain ⟨q0, q1, q2, q3, qlt⟩ := BQ2.out.c4
  go_wp2_with fail
  have hxt := (Ext.refl w2).alloc (.cells #[.slice B (m + 1) d, .int .i64 lv, .int .i64 nx, .int .u64 0] 29)
  have hbt := Blk.new w2 29 #[.slice B (m + 1) d, .int .i64 lv, .int .i64 nx, .int .u64 0]
  clear p0 p1 p2 p3 plt q0 q1 q2 q3 qlt
  refine (HRp.out _).mono ?_
  rintro e w3 ⟨rfl, hx3⟩
  have X3 := Lib.hid (hxt.trans hx3)
  have BT3 := Lib.hid (hbt.ext hx3)
  clear hxt hbt hx3
  obtain ⟨p0, p1, p2, p3, plt⟩ := (BP2.out.ext X3.out).c4
  obtain ⟨q0, q1, q2, q3, qlt⟩ := (BQ2.out.ext X3.out).c4
  obtain ⟨t0, t1, t2, t3, tlt⟩ := BT3.out.c4
  rcases hcase with rfl | ⟨rfl, rfl⟩ | ⟨rfl, rfl, rfl⟩ | ⟨rfl, rfl, rfl⟩
  · go_wp2_with fail
    go_ret
    exact ⟨rfl, E2.out.trans X3.out⟩
  · go_wp2_with fail
    refine (HRq.out _).mono ?_
    rintro e w4 ⟨rfl, hx4⟩
    go_wp2_with fail
    go_ret
    exact ⟨rfl, E2.out.trans (X3.out.trans hx4)⟩
  · go_wp2_with fail
    refine (HRq.out _).mono ?_
    rintro e w4 ⟨rfl, hx4⟩
    have X4 := Lib.hid (X3.out.trans hx4)
    have BT4 := Lib.hid (BT3.out.ext hx4)
    clear hx4 p0 p1 p2 p3 plt q0 q1 q2 q3 qlt t0 t1 t2 t3 tlt
    obtain ⟨t0, t1, t2, t3, tlt⟩ := BT4.out.c4
    go_wp2_with fail
    refine (HTR.out _ (E2.out.trans X4.out) (S2.out.ext X4.out)).mono ?_
    rintro e w5 ⟨rfl, hx5⟩
    go_wp2_with fail
    go_ret
    exact ⟨rfl, E2.out.trans (X4.out.trans hx5)⟩
  · go_wp2_with fail
    refine (HRq.out _).mono ?_
    rintro e w4 ⟨rfl, hx4⟩
    have X4 := Lib.hid (X3.out.trans hx4)
    have BT4 := Lib.hid (BT3.out.ext hx4)
    clear hx4 p0 p1 p2 p3 plt q0 q1 q2 q3 qlt t0 t1 t2 t3 tlt
    obtain ⟨t0, t1, t2, t3, tlt⟩ := BT4.out.c4
    go_wp2_with fail
    refine (HTR.out _ (E2.out.trans X4.out) (S2.out.ext X4.out)).mono ?_
    rintro e w5 ⟨rfl, hx5⟩
    have X5 := Lib.hid (X4.out.trans hx5)
    have BT5 := Lib.hid (BT4.out.ext hx5)
    clear hx5 t0 t1 t2 t3 tlt
    obtain ⟨p0, p1, p2, p3, plt⟩ := (BP2.out.ext X5.out).c4
    obtain ⟨q0, q1, q2, q3, qlt⟩ := (BQ2.out.ext X5.out).c4
    obtain ⟨t0, t1, t2, t3, tlt⟩ := BT5.out.c4
    have hmo : (max p.d q.d) = (p.more q).d ∧ (max p.w q.w) = (p.more q).w ∧ (max p.m q.m) = (p.more q).m ∧ (max p.y q.y) = (p.more q).y := ⟨rfl, rfl, rfl, rfl⟩
    obtain ⟨r1, r2, r3⟩ := HRR.out
    have HKP := Lib.hid (fun w1 (h : Ext w2 w1) => keep_ok HL.out.c p B (m + 1) d G lv nx 0 w1 hGl (S2.out.ext h) hd (HL.out.tabs _ (HPW.out _ (E2.out.trans h))) HGN.out HGT.out r1 r3)
    have HKM := Lib.hid (fun w1 (h : Ext w2 w1) => keep_ok HL.out.c (p.more q) B (m + 1) d G lv nx 0 w1 hGl (S2.out.ext h) hd (HL.out.tabs _ (HPW.out _ (E2.out.trans h))) HGN.out HGT.out (more_right r1 r2) r3)
    have hsub := fun x => keepF_mono (more_le p q) G lv (x := x)
    have hkl : keepF p (leftF (keepF p G lv) G) lv = keepF p G lv := by
      rw [HGR'.out]
      refine keep_left ?_ HGG.out rfl
      have := treeOk_rise r3
      rw [HGR'.out, List.pairwise_cons] at this
      exact rise_lone this.2
    have hdl := drops_left hkl
    have htl : treeOk (leftF (keepF p G lv) G) lv nx = true := by
      rw [HGR'.out] at r3 ⊢
      exact tree_left r3 (one_keepF p _ lv) (live_keep r3 HGG.out)
    have hln : ∀ x ∈ leftF (keepF p G lv) G, x.name.size ≤ 65536 := leftF_sub (fun _ _ h => h) HGN.out
    have hlt : ∀ x ∈ leftF (keepF p G lv) G, x.timed := leftF_sub (fun _ _ h => h) HGT.out
    have hll := leftF_len (keepF p G lv) G
    have HK2 := Lib.hid (fun w1 B2 n2 d2 (h : Ext w2 w1) hn2 (hs : Sl Lk.enc 6 w1 B2 (leftF (keepF p G lv) G)) (hd2 : n2 ≤ d2) => keep_ok HL.out.c p B2 n2 d2 (leftF (keepF p G lv) G) lv nx 0 w1 hn2 hs hd2 (HL.out.tabs _ (HPW.out _ (E2.out.trans h))) hln hlt r1 htl)
    have HD2 := Lib.hid (fun w1 B2 n2 d2 (h : Ext w2 w1) hn2 (hs : Sl Lk.enc 6 w1 B2 (leftF (keepF p G lv) G)) (hd2 : n2 ≤ d2) => drops_ok HL.out.c p B2 n2 d2 (leftF (keepF p G lv) G) lv nx 0 w1 hn2 hs hd2 (HL.out.tabs _ (HPW.out _ (E2.out.trans h))) hln hlt r1 htl)
    rw [hkl] at HK2
    rw [hdl] at HD2
    have hkn := keepF_len (p := p) (l := G) (live := lv) (treeOk_len r3).2
    have hkm := keepF_len (p := p.more q) (l := G) (live := lv) (treeOk_len r3).2
    clear hkl hdl htl hln hlt r1 r2 r3 HRR
    generalize keepF p G lv = kp at *
    generalize keepF (p.more q) G lv = km at *
    have HSUB := Lib.hid hsub
    clear hsub
    go_wp2_with fail
    have hx6 := (Ext.refl w5).alloc (.cells #[.int .i64 (max p.d q.d), .int .i64 (max p.w q.w), .int .i64 (max p.m q.m), .int .i64 (max p.y q.y)] 23)
    have hbm := Blk.new w5 23 #[.int .i64 (max p.d q.d), .int .i64 (max p.w q.w), .int .i64 (max p.m q.m), .int .i64 (max p.y q.y)]
    refine (HKP.out _ (X5.out.trans hx6)).mono ?_
    rintro e w6 ⟨⟨gk, ck, rfl, hk⟩, hx7⟩
    have X6 := Lib.hid (X5.out.trans (hx6.trans hx7))
    have BM6 := Lib.hid (hbm.ext hx7)
    have BT6 := Lib.hid (BT5.out.ext (hx6.trans hx7))
    have KP6 := Lib.hid (hk.sl' encI_len)
    clear hx6 hbm hk hx7 p0 p1 p2 p3 plt q0 q1 q2 q3 qlt t0 t1 t2 t3 tlt hmo
    obtain ⟨m0, m1, m2, m3, mlt⟩ := BM6.out.c4
    obtain ⟨t0, t1, t2, t3, tlt⟩ := BT6.out.c4
    go_wp2_with fail
    refine (HKM.out _ X6.out).mono ?_
    rintro e w7 ⟨⟨gm, cm, rfl, hm⟩, hx8⟩
    have X7 := Lib.hid (X6.out.trans hx8)
    have BT7 := Lib.hid (BT6.out.ext hx8)
    have KP7 := Lib.hid (KP6.out.ext hx8)
    have KM7 := Lib.hid (hm.sl' encI_len)
    clear hm hx8 m0 m1 m2 m3 mlt t0 t1 t2 t3 tlt
    have HIN1 := Lib.hid (fun n => in_any (some ⟨gm, 0, none⟩) cm km n w7 KM7.out (by omega))
    go_wp2_with fail
    go_loop [14] (fun v14 => ∃ k : Nat, k ≤ kp.length ∧ v14 = .int .i64 k) (fun v14 => kp.length - (intOf v14).toNat)
    case atStart => exact ⟨0, by omega, rfl⟩
    case round =>
      obtain ⟨k, hk, rfl⟩ := hrel
      by_cases hlt : k < kp.length
      · obtain ⟨ad, had, hbb, x0⟩ := KP7.out.at1 hlt
        injection had with had
        subst had
        rw [add_off0] at x0
        have hmem := HSUB.out kp[k] (List.getElem_mem hlt)
        generalize kp[k] = x at *
        have HM := Lib.hid hmem
        clear hmem
        go_wp2_with fail
        refine (HIN1.out x).mono ?_
        rintro e w8 ⟨rfl, rfl⟩
        rw [decide_eq_true HM.out]
        go_wp2_with fail
        exact ⟨⟨k + 1, by omega, by go_num⟩, by simp [intOf]; omega⟩
      · obtain ⟨t0, t1, t2, t3, tlt⟩ := BT7.out.c4
        have HS := Lib.hid (fun k (h : k < G.length) => leftF_snoc kp G h)
        have HLN := Lib.hid (fun k => leftF_len kp (G.take k))
        have h60 : G.length ≤ 60 := by omega
        have BT8 := Lib.hid (BT7.out)
        clear t0 t1 t2 t3 tlt
        obtain ⟨t0, t1, t2, t3, tlt⟩ := BT8.out.c4
        go_wp2_with fail
        clear t0 t1 t2 t3 tlt
        go_loopw [16] (fun v16 wr => ∃ (k : Nat) (C : Option Addr) (cc n : Nat), k ≤ m + 1 ∧ v16 = .int .i64 k ∧ (leftF kp (G.take k)).length = n ∧ Hid (Blk wr w7.heap.size 29 #[.slice C n cc, .int .i64 lv, .int .i64 nx, .int .u64 0]) ∧
          Hid (Own Lk.enc 37 6 wr w7.heap.size (.slice C n cc) (leftF kp (G.take k))) ∧ Hid (Ext w7 wr)) (fun v16 _ => m + 1 - (intOf v16).toNat)
        case atStart => exact ⟨0, none, 0, 0, by omega, rfl, rfl, Blk.new w7 _ _, Own.nil, (Ext.refl w7).alloc _⟩
        case round =>
          obtain ⟨k, C, cc, n, hk, rfl, hn2, HB, HO, HE⟩ := hrel
          obtain ⟨t0, t1, t2, t3, tlt⟩ := (BT8.out.ext HE.out).c4
          by_cases hlt : k < m + 1
          · obtain ⟨ad, rfl, hbb, x0, x1, x2, x3, x4, x5⟩ := Sl.at6 (S2.out.ext (X7.out.trans HE.out)) (show k < G.length by omega)
            have hs := HS.out k (by omega)
            have hn3 : n ≤ 60 := by rw [← hn2]; exact Nat.le_trans (HLN.out k) (by rw [List.length_take]; omega)
            have hw8 := HE.out.size
            generalize G[k] = x at *
            generalize leftF kp (G.take k) = lk at *
            have HSS := Lib.hid hs
            clear hs
            obtain ⟨b0, b1, b2, b3, blt⟩ := HB.out.c4
            have HIN := Lib.hid (fun w1 (h : Ext w7 w1) => in_any (some ⟨gk, 0, none⟩) ck kp x.id w1 (KP7.out.ext h) (by omega))
            have hin : x.id ∈ kp ∨ ¬ x.id ∈ kp := Classical.em _
            rcases hin with hin | hin
            · have HI := Lib.hid hin
              rw [if_pos hin] at HSS
              clear hin
              go_wp2_with fail
              refine (HIN.out _ (HE.out.alloc _)).mono ?_
              rintro e w8 ⟨rfl, rfl⟩
              rw [decide_eq_true HI.out]
              have hlk : lk.length = n := hn2
              have HO1 := Lib.hid (fun o o' => (HO.out.alloc o).alloc o')
              have HB1 := Lib.hid (fun o o' => (HB.out.alloc o).alloc o')
              have HE1 := Lib.hid (fun o o' => (HE.out.alloc o).alloc o')
              go_wp2_with (at_builtin; go_must (refine wp_app rfl (.tmp 105) (.tmp 107) 26 rfl Tryz.underlying26 info_link rfl (by decide) Lk.enc_len Lk.one w7.heap.size (.slice C n cc) lk rfl (HO1.out _ _) _ 1 1 [mk k x] rfl rfl (Sl.one _ 37 (mk k x) _ (by simp [Lk.enc, mk]) (by simp)) (by simp; omega) (by simp; omega) (by simp; omega) ?_; intro v6 w6 hown6 hg6 _; have HB6 := Lib.hid (Blk.grown (HB1.out _ _) (HO1.out _ _) (by decide) hg6); have HE6 := Lib.hid (Own.step (HO1.out _ _) (HE1.out _ _) hg6); obtain ⟨C6, c6, rfl, _⟩ := hown6.slice; have HO6 := Lib.hid hown6; obtain ⟨u0, u1, u2, u3, ult⟩ := HB6.out.c4; have uf := HB6.out.frozen 0; clear hown6 hg6))
              go_roundw
              case measure => simp [intOf]; omega
              case rel =>
                have hlen6 : (lk ++ [mk k x]).length = n + 1 := by rw [List.length_append, hlk]; rfl
                have hne6 := HO6.out.ne_blk HB6.out (by decide)
                have ho6 := HO6.out.far (p := ⟨w7.heap.size, 0, none⟩) hne6 (.slice C6 (n + 1) c6)
                rw [hlen6] at ho6
                refine ⟨k + 1, C6, c6, n + 1, by omega, by go_num, by rw [HSS.out]; exact hlen6, ?_, by rw [HSS.out]; exact ho6, HE6.out.setCell (by dsimp only; omega) _⟩
                refine Lib.hid ?_
                simpa using HB6.out.set_ 0 (.slice C6 (n + 1) c6)
            · have HI := Lib.hid hin
              rw [if_neg hin, List.append_nil] at HSS
              clear hin
              go_wp2_with fail
              refine (HIN.out _ (HE.out.alloc _)).mono ?_
              rintro e w8 ⟨rfl, rfl⟩
              rw [decide_eq_false HI.out]
              go_wp2_with fail
              go_roundw
              case measure => simp [intOf]; omega
              case rel => exact ⟨k + 1, C, cc, n, by omega, by go_num, by rw [HSS.out]; exact hn2, HB.out.alloc _, by rw [HSS.out]; exact HO.out.alloc _, HE.out.alloc _⟩
          · obtain rfl : k = m + 1 := by omega
            rw [← hGl, List.take_length] at hn2 HO
            have hn3 := leftF_len kp G
            have hcc : n ≤ cc := by
              obtain ⟨A', c', he, hle⟩ := HO.out.slice
              injection he with _ _ hc
              omega
            have HSL := Lib.hid (HO.out.sl' Lk.enc_len)
            have X8 := Lib.hid (X7.out.trans HE.out)
            obtain ⟨p0, p1, p2, p3, plt⟩ := (BP2.out.ext X8.out).c4
            obtain ⟨b0, b1, b2, b3, blt⟩ := HB.out.c4
            clear HO
            go_wp2_with fail
            refine (HK2.out wr C n cc X8.out hn2 HSL.out hcc).mono ?_
            rintro e w9 ⟨⟨g9, c9, rfl, h9⟩, hx9⟩
            have X9 := Lib.hid (X8.out.trans hx9)
            have KP9 := Lib.hid (KP7.out.ext (HE.out.trans hx9))
            have K9 := Lib.hid (h9.sl' encI_len)
            have HB9 := Lib.hid (HB.out.ext hx9)
            have HS9 := Lib.hid (HSL.out.ext hx9)
            clear h9 hx9 p0 p1 p2 p3 plt b0 b1 b2 b3 blt t0 t1 t2 t3 tlt
            go_wp2_with fail
            refine (sameInts_any (some ⟨g9, 0, none⟩) c9 kp (some ⟨gk, 0, none⟩) ck kp w9 K9.out KP9.out (by omega) (by omega)).mono ?_
            rintro e w10 ⟨rfl, hx10⟩
            rw [decide_eq_true rfl]
            have X10 := Lib.hid (X9.out.trans hx10)
            have HB10 := Lib.hid (HB9.out.ext hx10)
            have HS10 := Lib.hid (HS9.out.ext hx10)
            clear hx10
            obtain ⟨p0, p1, p2, p3, plt⟩ := (BP2.out.ext X10.out).c4
            obtain ⟨b0, b1, b2, b3, blt⟩ := HB10.out.c4
            go_wp2_with fail
            refine (HD2.out w10 C n cc X10.out hn2 HS10.out hcc).mono ?_
            rintro e w11 ⟨⟨D, dd, rfl, _⟩, hx11⟩
            have X11 := Lib.hid (X10.out.trans hx11)
            clear hx11 p0 p1 p2 p3 plt b0 b1 b2 b3 blt
            go_wp2_with fail
            refine (new14_any w11).mono ?_
            rintro e w12 ⟨⟨F, ff, rfl⟩, hx12⟩
            have hfl := new_field F ff w12
            have X12 := Lib.hid (X11.out.trans hx12)
            clear hx12
            go_wp2_with fail
            go_ret
            exact ⟨rfl, E2.out.trans X12.out⟩
end Go.Proofs.YtdnmpkdnfockgaaGreatDoor
