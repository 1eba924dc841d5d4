/-
  What policy.Keep comes to.
-/
import Derived.Test.YtdnmpkdnfockgaaGreatDoorLibs
import Derived.Test.YtdnmpkdnfockgaaGreatDoorTree
import Derived.Test.YtdnmpkdnfockgaaGreatDoorPol
namespace Go.Proofs.YtdnmpkdnfockgaaGreatDoor
open Go.RowKit

def cand (l : List Lk) : List Lk := l.filter (fun x => !x.ghost)
def pinIds (live : Int) (l : List Lk) : List Int := (l.filter (fun x => !x.ghost && (x.pin || (x.id == live)))).map (·.id)
def idsOf (p : Pol) (live : Int) (rest ys : List Lk) : List Int := (1 :: pinIds live rest) ++ latF 0 p.d ys ++ latF 1 p.w ys ++ latF 2 p.m ys ++ latF 3 p.y ys
def keepOf (p : Pol) (live : Int) (rest ys : List Lk) : List Int := Lib.compact ((idsOf p live rest ys).mergeSort fun x y => decide (x ≤ y))

def KeepPost (p : Pol) (l : List Lk) (live next : Int) (w : World) (e : Ending) (w' : World) : Prop :=
  (if (p.right && treeOk l live next) = true then
    ∃ v ys, e = .returned v ∧ ys.Perm (cand (l.drop 1)) ∧ ys.Pairwise (fun x y => ¬ cmpK y x < 0) ∧ Own encI 3 1 w' w.heap.size v (keepOf p live (l.drop 1) ys)
  else e = .returned (.slice none 0 0)) ∧ Ext w w'

theorem treeOk_len {l : List Lk} {live next : Int} (h : treeOk l live next = true) : 0 < l.length ∧ l.length ≤ 60 := by
  unfold treeOk at h
  simp only [Bool.and_eq_true, decide_eq_true_eq] at h
  exact ⟨h.1, h.2.1⟩

theorem pinIds_snoc (live : Int) (l : List Lk) {k : Nat} (hk : k < l.length) : pinIds live (l.take (k + 1)) = pinIds live (l.take k) ++ (if (!l[k].ghost && (l[k].pin || (l[k].id == live))) = true then [l[k].id] else []) := by
  unfold pinIds
  rw [List.take_succ_eq_append_getElem hk, List.filter_append, List.map_append]
  congr 1
  rw [List.filter_cons]
  split <;> rfl
theorem cand_snoc (l : List Lk) {k : Nat} (hk : k < l.length) : cand (l.take (k + 1)) = cand (l.take k) ++ (if l[k].ghost = false then [l[k]] else []) := by
  unfold cand
  rw [List.take_succ_eq_append_getElem hk, List.filter_append]
  congr 1
  rw [List.filter_cons]
  cases l[k].ghost <;> rfl
theorem cand_len (l : List Lk) : (cand l).length ≤ l.length := List.length_filter_le _ _
theorem pinIds_len (live : Int) (l : List Lk) : (pinIds live l).length ≤ l.length := by
  unfold pinIds
  rw [List.length_map]
  exact List.length_filter_le _ _

theorem Own.low {α : Type} {enc : α → List Value} {e : TypeId} {k : Nat} {w : World} {base b : Nat} {v : Value} {xs : List α} (h : Own enc e k w base v xs) (hb : b ≤ base) : Own enc e k w b v xs :=
  ⟨h.1, h.2.imp id (fun ⟨g, cap, cur, hv, hb', r⟩ => ⟨g, cap, cur, hv, Nat.le_trans hb hb', r⟩)⟩
def tiersF (p : Pol) (ys : List Lk) (j : Nat) : List Int := (List.range j).flatMap fun (t : Nat) => latF (t : Int) (p.nth t) ys
theorem tiersF_succ (p : Pol) (ys : List Lk) (j : Nat) : tiersF p ys (j + 1) = tiersF p ys j ++ latF (j : Int) (p.nth j) ys := by
  unfold tiersF
  rw [List.range_succ, List.flatMap_append, List.flatMap_singleton]
theorem latF_len (tier many : Int) (l : List Lk) : (latF tier many l).length ≤ l.length := by
  have := lst_len tier many l (none, [])
  simpa [latF] using this
theorem tiersF_len (p : Pol) (ys : List Lk) (j : Nat) : (tiersF p ys j).length ≤ j * ys.length := by
  induction j with
  | zero => simp [tiersF]
  | succ j ih =>
    have := latF_len (j : Int) (p.nth j) ys
    rw [tiersF_succ, List.length_append, Nat.add_mul]
    omega
theorem idsOf_tiers (p : Pol) (live : Int) (rest ys : List Lk) : idsOf p live rest ys = (1 :: pinIds live rest) ++ tiersF p ys 4 := by
  unfold idsOf
  simp [tiersF, List.range_succ, Pol.nth]

set_option maxRecDepth 100000 in
set_option maxHeartbeats 2000000 in
theorem keep_any (L : LibC) (p : Pol) (A : Option Addr) (c : Nat) (l : List Lk) (live next now : Int) (w : World) (hl : Sl Lk.enc 6 w A l) (hn : l.length ≤ 9223372036854775807) (hlc : l.length ≤ c) (ht : Tabs w) (hs : ∀ x ∈ l, x.name.size ≤ 65536) (htm : ∀ x ∈ l, x.timed) :
    Calls Tryz.prog 12 #[.agg #[.int .i64 p.d, .int .i64 p.w, .int .i64 p.m, .int .i64 p.y], .agg #[.slice A l.length c, .int .i64 live, .int .i64 next, .int .u64 now]] w (KeepPost p l live next w) := by
  have HL := Lib.hid hl
  have LL := Lib.hid L
  have HM := Lib.hid htm
  have HTR := Lib.hid (fun w1 (h : Ext w w1) => treeRight_any L.valid A c l live next now w1 (hl.ext h) hn hlc (ht.ext h) hs)
  clear hl L htm hs ht
  have hpr : p.right = true ∨ p.right = false := by cases p.right <;> simp
  rcases hpr with hp | hp
  · have HP := Lib.hid hp
    have HRp := Lib.hid (fun w => right_any p w)
    rw [hp] at HRp
    clear hp
    have htr : treeOk l live next = true ∨ treeOk l live next = false := by cases treeOk l live next <;> simp
    rcases htr with ht | ht
    · have HT := Lib.hid ht
      rw [ht] at HTR
      obtain ⟨hl0, hl60⟩ := treeOk_len ht
      clear ht
      go_enter Tryz.func12, Tryz.ntmps12
      go_wp2_with fail
      refine (HRp.out _).mono ?_
      rintro e w1 ⟨rfl, hx1⟩
      have E0 := (((Ext.refl w).alloc (.cells #[.int .i64 p.d, .int .i64 p.w, .int .i64 p.m, .int .i64 p.y] 23)).alloc (.cells #[.slice A l.length c, .int .i64 live, .int .i64 next, .int .u64 now] 29))
      have b1 := ((Blk.at_ w 23 #[.int .i64 p.d, .int .i64 p.w, .int .i64 p.m, .int .i64 p.y] rfl).alloc (.cells #[.slice A l.length c, .int .i64 live, .int .i64 next, .int .u64 now] 29)).ext hx1
      have b2 := (Blk.at_ (w.alloc (.cells #[.int .i64 p.d, .int .i64 p.w, .int .i64 p.m, .int .i64 p.y] 23)) 29 #[.slice A l.length c, .int .i64 live, .int .i64 next, .int .u64 now] (g := w.heap.size + 1) (by simp)).ext hx1
      have E1 := Lib.hid (E0.trans hx1)
      have B1 := Lib.hid b1
      have B2 := Lib.hid b2
      have c0 : w1.cell? ⟨w.heap.size + 1, 0, none⟩ = some (.slice A l.length c) := b2.cell 0
      have c1 : w1.cell? ⟨w.heap.size + 1, 1, none⟩ = some (.int .i64 live) := b2.cell 1
      have c2 : w1.cell? ⟨w.heap.size + 1, 2, none⟩ = some (.int .i64 next) := b2.cell 2
      have c3 : w1.cell? ⟨w.heap.size + 1, 3, none⟩ = some (.int .u64 now) := b2.cell 3
      clear E0 hx1 b1 b2
      go_wp2_with fail
      refine (HTR.out _ E1.out).mono ?_
      rintro e w2 ⟨rfl, hx2⟩
      clear c0 c1 c2 c3
      have E2 := Lib.hid (E1.out.trans hx2)
      have C1 := Lib.hid (B1.out.ext hx2)
      have C2 := Lib.hid (B2.out.ext hx2)
      have hw0 : w.heap.size + 1 < w2.heap.size := C2.out.lt
      have c0 : w2.cell? ⟨w.heap.size + 1, 0, none⟩ = some (.slice A l.length c) := C2.out.cell 0
      clear hx2 E1 B1 B2 HTR
      obtain ⟨i6, hi6, _, hi6s, _⟩ := info_parts info_link
      obtain ⟨A1, hcut, hA1⟩ := sl_cut (enc := Lk.enc) (k := 6) 26 37 Tryz.underlying26 hi6 hi6s A l.length c 1 (by omega)
      have HR := Lib.hid (hA1 w2 l rfl hlc (HL.out.ext E2.out))
      have hrl : (l.drop 1).length = l.length - 1 := by simp
      clear hA1 hi6 hi6s
      obtain ⟨rest, hrest⟩ : ∃ rest, l.drop 1 = rest := ⟨_, rfl⟩
      rw [hrest] at HR hrl
      have HREST := Lib.hid hrest
      have HMR := Lib.hid (fun x (hx : x ∈ rest) => HM.out x (by rw [← hrest] at hx; exact List.mem_of_mem_drop hx))
      have hcut2 : ∀ W : World, (Instr.slice 26 (.slice A l.length c) (some (.int .i64 1)) none none).run Tryz.prog W = .ok (.slice A1 rest.length (c - 1)) W := by rw [hrl]; exact hcut
      have hr60 : rest.length < 60 := by omega
      clear hcut hrest hrl
      go_wp2_with fail
      have hw2 : w.heap.size ≤ w2.heap.size := by omega
      go_loopw [24, 5, 6] (fun v24 v5 v6 wr => ∃ (k : Nat), k ≤ rest.length ∧ v24 = .int .i64 k ∧ Hid (Own encI 3 1 wr w2.heap.size v5 (1 :: pinIds live (rest.take k))) ∧ Hid (Own Lk.enc 37 6 wr w2.heap.size v6 (cand (rest.take k))) ∧ Hid (Ext w2 wr)) (fun v24 _ _ _ => rest.length - (intOf v24).toNat)
      case atStart => exact ⟨0, Nat.zero_le _, rfl, Own.lit w2 w2.heap.size 3 1 #[.int .i64 1] [1] rfl encI_len (Nat.le_refl _) (by simp) rfl, Own.nil, (Ext.refl w2).alloc _⟩
      case round =>
        obtain ⟨k, hk, rfl, HO5, HO6, HE⟩ := hrel
        by_cases hlt : k < rest.length
        · obtain ⟨ad, rfl, hbb, x0, x1, x2, x3, x4, x5⟩ := Sl.at6 (HR.out.ext HE.out) hlt
          have D2 := Lib.hid (C2.out.ext HE.out)
          have hw1 : w.heap.size + 1 < wr.heap.size := D2.out.lt
          have hw3 : w2.heap.size ≤ wr.heap.size := HE.out.size
          have d1 : wr.cell? ⟨w.heap.size + 1, 1, none⟩ = some (.int .i64 live) := D2.out.cell 1
          obtain ⟨x, hx⟩ : ∃ x, rest[k] = x := ⟨_, rfl⟩
          rw [hx] at x0 x1 x2 x3 x4 x5
          have hp1 := pinIds_snoc live rest hlt
          have hc1 := cand_snoc rest hlt
          rw [hx] at hp1 hc1
          have HP1 := Lib.hid hp1
          have HC1 := Lib.hid hc1
          have hcl : (cand (rest.take k)).length ≤ 60 := Nat.le_trans (cand_len _) (by rw [List.length_take]; omega)
          have hpl : (pinIds live (rest.take k)).length ≤ 60 := Nat.le_trans (pinIds_len _ _) (by rw [List.length_take]; omega)
          clear hx hp1 hc1
          generalize pinIds live (rest.take k) = pk at *
          generalize cand (rest.take k) = ck at *
          have hg : x.ghost = true ∨ x.ghost = false := by cases x.ghost <;> simp
          rcases hg with hg | hg
          · go_wp2_with fail
            all_goals go_roundw
            case measure => simp [intOf]; omega
            case rel =>
              refine ⟨k + 1, by omega, by go_num, ?_, ?_, HE.out.alloc _⟩
              · rw [HP1.out, hg]; refine Lib.hid ?_; simpa using HO5.out.alloc _
              · rw [HC1.out, hg]; refine Lib.hid ?_; simpa using HO6.out.alloc _
          · obtain ⟨A6, c6, rfl, _⟩ := HO6.out.slice
            obtain ⟨A5, c5, rfl, _⟩ := HO5.out.slice
            have H6 := Lib.hid (fun o o' => (HO6.out.alloc o).alloc o')
            have H5 := Lib.hid (fun o o' => (HO5.out.alloc o).alloc o')
            have hb6 : (Value.slice A6 ck.length c6).ownBlock ≠ some wr.heap.size := fun h => absurd (HO6.out.lt _ h) (by omega)
            have HB6 := Lib.hid hb6
            have HEa := Lib.hid (fun o o' => (HE.out.alloc o).alloc o')
            clear hb6
            have hpin : (x.pin = true) ∨ (x.pin = false ∧ (x.id == live) = true) ∨ (x.pin = false ∧ (x.id == live) = false) := by
              cases x.pin <;> cases (x.id == live) <;> simp
            rcases hpin with hp | ⟨hp, hil⟩ | ⟨hp, hil⟩
            all_goals
              go_wp2_with (first
                | (at_builtin; refine wp_app rfl (.tmp 30) (.tmp 32) 26 rfl Tryz.underlying26 info_link rfl (by decide) Lk.enc_len Lk.one w2.heap.size (.slice A6 ck.length c6) ck rfl (H6.out _ _) _ 1 1 [x] rfl rfl (Sl.one _ 37 x _ (by simp [Lk.enc, hg, hp]) (by simp)) (by simp; omega) (by simp; omega) (by simp; omega) ?_; intro v6 w6 hown6 hg6 _; have HO6' := Lib.hid hown6; have HO5' := Lib.hid (Own.other (H5.out _ _) (H6.out _ _) (by decide) hg6); have HE6 := Lib.hid (Own.step (H6.out _ _) (HEa.out _ _) hg6); have BX := Lib.hid (Blk.above ((Blk.at_ wr 37 _ rfl).alloc _) HB6.out hg6); have hw6 : w.heap.size + 1 < w6.heap.size := Nat.lt_of_lt_of_le hw0 HE6.out.size; have hw7 := BX.out.lt; have hw8 := HE6.out.size; have f0 := BX.out.cell 0; have f5 := BX.out.cell 5; have d1' : w6.cell? ⟨w.heap.size + 1, 1, none⟩ = some (.int .i64 live) := (C2.out.ext HE6.out).cell 1; clear hown6 hg6)
                | (at_builtin; go_must (refine wp_app rfl (.tmp 43) (.tmp 46) 33 rfl Tryz.underlying33 info_int rfl (by decide) encI_len encI_one w2.heap.size (.slice A5 (1 :: pk).length c5) (1 :: pk) rfl (HO5'.out.alloc _) _ 1 1 [x.id] rfl rfl (Sl.one _ 3 x.id _ rfl (by simp)) (by simp; omega) (by simp; omega) (by simp; omega) ?_; intro v5 w5 hown5 hg5 _; have HO5'' := Lib.hid hown5; have HO6'' := Lib.hid (Own.other (HO6'.out.alloc _) (HO5'.out.alloc _) (by decide) hg5); have HE5 := Lib.hid (Own.step (HO5'.out.alloc _) (HE6.out.alloc _) hg5); clear hown5 hg5)))
              all_goals go_roundw
              all_goals try (case measure => simp [intOf]; omega)
              all_goals (case rel => first
                | (refine ⟨k + 1, by omega, by go_num, ?_, ?_, HE5.out⟩
                   · rw [HP1.out]; refine Lib.hid ?_; simpa [hg, hp, hil] using HO5''.out
                   · rw [HC1.out]; refine Lib.hid ?_; simpa [hg] using HO6''.out)
                | (refine ⟨k + 1, by omega, by go_num, ?_, ?_, HE5.out⟩
                   · rw [HP1.out]; refine Lib.hid ?_; simpa [hg, hp] using HO5''.out
                   · rw [HC1.out]; refine Lib.hid ?_; simpa [hg] using HO6''.out)
                | (refine ⟨k + 1, by omega, by go_num, ?_, ?_, HE6.out⟩
                   · rw [HP1.out]; refine Lib.hid ?_; simpa [hg, hp, hil] using HO5'.out
                   · rw [HC1.out]; refine Lib.hid ?_; simpa [hg] using HO6'.out))
        · obtain rfl : k = rest.length := by omega
          rw [List.take_length] at HO5 HO6
          obtain ⟨A6, c6, rfl, _⟩ := HO6.out.slice
          have hcl : (cand rest).length ≤ 60 := Nat.le_trans (cand_len _) (by omega)
          have hpl : (pinIds live rest).length ≤ 60 := Nat.le_trans (pinIds_len _ _) (by omega)
          have HSL := Lib.hid (LL.out.sortL wr w2.heap.size A6 c6 (cand rest) HO6.out hcl)
          go_wp2_with fail
          refine HSL.out.mono ?_
          rintro e w3 ⟨rfl, ⟨ys, hown, hperm, hpw⟩, hg⟩
          have hyl : ys.length = (cand rest).length := hperm.length_eq
          have HO5a := Lib.hid (Own.other HO5.out HO6.out (by decide) hg)
          have HE3 := Lib.hid (Own.step HO6.out HE.out hg)
          have HO6a := Lib.hid hown
          have HPW := Lib.hid (And.intro hperm hpw)
          have D1 := Lib.hid (C1.out.ext HE3.out)
          have hw3 := D1.out.lt
          have e0 : w3.cell? ⟨w.heap.size, 0, none⟩ = some (.int .i64 p.d) := D1.out.cell 0
          have e1 : w3.cell? ⟨w.heap.size, 1, none⟩ = some (.int .i64 p.w) := D1.out.cell 1
          have e2 : w3.cell? ⟨w.heap.size, 2, none⟩ = some (.int .i64 p.m) := D1.out.cell 2
          have e3 : w3.cell? ⟨w.heap.size, 3, none⟩ = some (.int .i64 p.y) := D1.out.cell 3
          clear hown hperm hpw hg HSL HO5 HO6 HE
          go_wp2_with fail
          refine (counts_any p _).mono ?_
          rintro e w4 ⟨rfl, hx4⟩
          have HO5b := Lib.hid (HO5a.out.ext hx4)
          have HO6b := Lib.hid (HO6a.out.ext hx4)
          have HE4 := Lib.hid (HE3.out.trans hx4)
          clear hx4 HO5a HO6a HE3 e0 e1 e2 e3 D1
          have HNTH := Lib.hid (fun k hk w => nth_run p k hk w)
          have hmem : ∀ y ∈ ys, y ∈ rest := fun y hy => (List.mem_filter.1 (HPW.out.1.mem_iff.1 hy)).1
          have HTM := Lib.hid (fun y (hy : y ∈ ys) => HMR.out y (hmem y hy))
          have hy60 : ys.length ≤ 60 := by omega
          rw [← hyl] at HO6b
          have hrest' := HREST.out
          have HREST' := Lib.hid hrest'
          clear hmem HMR HREST hrest'
          go_wp2_with fail
          go_loopw [53, 5] (fun v53 v5 wr => ∃ (j : Nat), j ≤ 4 ∧ v53 = .int .i64 j ∧ Hid (Own encI 3 1 wr w2.heap.size v5 ((1 :: pinIds live rest) ++ tiersF p ys j)) ∧ Hid (Own Lk.enc 37 6 wr w2.heap.size (.slice A6 ys.length c6) ys) ∧ Hid (Ext w2 wr)) (fun v53 _ _ => 4 - (intOf v53).toNat)
          case atStart => exact ⟨0, by omega, rfl, Lib.hid (by simpa [tiersF] using HO5b.out), HO6b, HE4⟩
          case round =>
            obtain ⟨j, hj, rfl, HO5, HO6, HE⟩ := hrel
            have htl := tiersF_len p ys j
            have hjl : j * ys.length ≤ 4 * ys.length := Nat.mul_le_mul_right _ hj
            by_cases hlt : j < 4
            · have hnth := HNTH.out j hlt
              have HS := Lib.hid (tiersF_succ p ys j)
              have hll := latF_len (j : Int) (p.nth j) ys
              have HLT := Lib.hid (fun w (h : Own Lk.enc 37 6 w w2.heap.size (.slice A6 ys.length c6) ys) => latest_any A6 c6 ys (j : Int) (p.nth j) w (h.sl Lk.enc_len rfl) hy60 HTM.out)
              rw [hyl] at HLT HO6
              generalize p.nth j = nj at *
              obtain ⟨lat, hlat⟩ : ∃ lat, latF (j : Int) nj ys = lat := ⟨_, rfl⟩
              rw [hlat] at HS HLT hll
              obtain ⟨tj, htj⟩ : ∃ tj, (1 :: pinIds live rest) ++ tiersF p ys j = tj := ⟨_, rfl⟩
              have hs : (1 :: pinIds live rest) ++ tiersF p ys (j + 1) = tj ++ lat := by rw [HS.out, ← htj, List.append_assoc]
              have htjl : tj.length ≤ 400 := by rw [← htj, List.length_append, List.length_cons]; omega
              have HSS := Lib.hid hs
              rw [htj] at HO5
              clear htj hs hlat htl hjl HS
              obtain ⟨A5, c5, rfl, _⟩ := HO5.out.slice
              go_wp2_with (first
                | (go_at_call 34; refine (HLT.out _ HO6.out).mono ?_; rintro e w5 ⟨⟨v7, rfl, hv7⟩, hx5⟩; obtain ⟨A7, c7, rfl, _⟩ := hv7.slice; have HV7 := Lib.hid hv7; have HX5 := Lib.hid hx5; have hw5 := hx5.size; have hw6 := HE.out.size; clear hx5 hv7)
                | (at_builtin; go_must (refine wp_app rfl (.tmp 57) (.tmp 61) 33 rfl Tryz.underlying33 info_int rfl (by decide) encI_len encI_one w2.heap.size (.slice A5 tj.length c5) tj rfl (HO5.out.ext HX5.out) A7 lat.length c7 lat rfl rfl (HV7.out.sl encI_len rfl) (by omega) (by omega) (by omega) ?_; intro v6 w6 hown6 hg6 _; have HO5' := Lib.hid hown6; have HO6' := Lib.hid (Own.other (HO6.out.ext HX5.out) (HO5.out.ext HX5.out) (by decide) hg6); have HE6 := Lib.hid (Own.step (HO5.out.ext HX5.out) (HE.out.trans HX5.out) hg6); clear hown6 hg6)))
              go_roundw
              case measure => simp [intOf]; omega
              case rel => exact ⟨j + 1, by omega, by go_num, by rw [HSS.out]; exact HO5', by rw [hyl]; exact HO6', HE6⟩
            · obtain rfl : j = 4 := by omega
              rw [← idsOf_tiers] at HO5
              have HK : Hid (keepOf p live (l.drop 1) ys = Lib.compact ((idsOf p live rest ys).mergeSort fun x y => decide (x ≤ y))) := Lib.hid (by rw [HREST'.out]; rfl)
              have hil : (idsOf p live rest ys).length ≤ 1000 := by rw [idsOf_tiers, List.length_append, List.length_cons]; omega
              generalize idsOf p live rest ys = ids at *
              obtain ⟨A5, c5, rfl, _⟩ := HO5.out.slice
              have HSI := Lib.hid (LL.out.sortI wr w2.heap.size A5 c5 ids HO5.out hil)
              have HCI := Lib.hid (fun w h => LL.out.compact w w2.heap.size A5 c5 (ids.mergeSort fun x y => decide (x ≤ y)) h (by rw [List.length_mergeSort]; exact hil))
              rw [List.length_mergeSort] at HCI
              clear HNTH htl hjl
              go_wp2_with fail
              refine HSI.out.mono ?_
              rintro e w5 ⟨rfl, hown, hg⟩
              have HO5a := Lib.hid hown
              have HE5 := Lib.hid (Own.step HO5.out HE.out hg)
              clear hown hg
              go_wp2_with fail
              refine (HCI.out _ HO5a.out).mono ?_
              rintro e w6 ⟨rfl, hown, hg⟩
              have HO5b := Lib.hid hown
              have HE6 := Lib.hid (Own.step HO5a.out HE5.out hg)
              clear hown hg
              go_wp2_with fail
              go_ret
              unfold KeepPost
              rw [HP.out, HT.out]
              refine ⟨⟨_, ys, rfl, ?_, HPW.out.2.imp (fun h => Int.not_lt.2 (by assumption)), ?_⟩, E2.out.trans HE6.out⟩
              · rw [HREST'.out]; exact HPW.out.1
              · rw [HK.out]; exact HO5b.out.low hw2
    · have HT := Lib.hid ht
      rw [ht] at HTR
      clear ht
      go_enter Tryz.func12, Tryz.ntmps12
      go_wp2_with fail
      refine (HRp.out _).mono ?_
      rintro e w1 ⟨rfl, hx1⟩
      have E0 := (((Ext.refl w).alloc (.cells #[.int .i64 p.d, .int .i64 p.w, .int .i64 p.m, .int .i64 p.y] 23)).alloc (.cells #[.slice A l.length c, .int .i64 live, .int .i64 next, .int .u64 now] 29))
      have b2 := (Blk.at_ (w.alloc (.cells #[.int .i64 p.d, .int .i64 p.w, .int .i64 p.m, .int .i64 p.y] 23)) 29 #[.slice A l.length c, .int .i64 live, .int .i64 next, .int .u64 now] (g := w.heap.size + 1) (by simp)).ext hx1
      have E1 := Lib.hid (E0.trans hx1)
      have c0 : w1.cell? ⟨w.heap.size + 1, 0, none⟩ = some (.slice A l.length c) := b2.cell 0
      have c1 : w1.cell? ⟨w.heap.size + 1, 1, none⟩ = some (.int .i64 live) := b2.cell 1
      have c2 : w1.cell? ⟨w.heap.size + 1, 2, none⟩ = some (.int .i64 next) := b2.cell 2
      have c3 : w1.cell? ⟨w.heap.size + 1, 3, none⟩ = some (.int .u64 now) := b2.cell 3
      clear E0 hx1 b2
      go_wp2_with fail
      refine (HTR.out _ E1.out).mono ?_
      rintro e w2 ⟨rfl, hx2⟩
      have E2 := Lib.hid (E1.out.trans hx2)
      clear hx2 c0 c1 c2 c3
      go_wp2_with fail
      go_ret
      unfold KeepPost
      rw [HT.out, Bool.and_false]
      exact ⟨rfl, E2.out⟩
  · have HP := Lib.hid hp
    have HRp := Lib.hid (fun w => right_any p w)
    rw [hp] at HRp
    clear hp HTR
    go_enter Tryz.func12, Tryz.ntmps12
    go_wp2_with fail
    refine (HRp.out _).mono ?_
    rintro e w1 ⟨rfl, hx1⟩
    have E1 := Lib.hid ((((Ext.refl w).alloc (.cells #[.int .i64 p.d, .int .i64 p.w, .int .i64 p.m, .int .i64 p.y] 23)).alloc (.cells #[.slice A l.length c, .int .i64 live, .int .i64 next, .int .u64 now] 29)).trans hx1)
    clear hx1
    go_wp2_with fail
    go_ret
    unfold KeepPost
    rw [HP.out, Bool.false_and]
    exact ⟨rfl, E1.out⟩
end Go.Proofs.YtdnmpkdnfockgaaGreatDoor
