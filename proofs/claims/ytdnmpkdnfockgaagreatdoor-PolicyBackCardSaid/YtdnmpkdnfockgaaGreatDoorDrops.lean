/-
  What policy.Drops comes to.
-/
import Derived.Test.YtdnmpkdnfockgaaGreatDoorKeepF
import Derived.Lib.SliceRun
namespace Go.Proofs.YtdnmpkdnfockgaaGreatDoor
open Go.RowKit

theorem keepF_len {p : Pol} {l : List Lk} {live : Int} (hl : l.length ≤ 60) : (keepF p l live).length ≤ 1000 := by
  unfold keepF keepOf Lib.compact Lib.compactUpTo
  rw [List.length_map]
  refine Nat.le_trans (List.length_filter_le _ _) ?_
  rw [List.length_range, List.length_mergeSort, idsOf_tiers, List.length_append, List.length_cons]
  have h1 := pinIds_len live (l.drop 1)
  have h2 := tiersF_len p (srt (cand (l.drop 1))) 4
  have h3 := (srt_perm (cand (l.drop 1))).length_eq
  have h4 := cand_len (l.drop 1)
  rw [List.length_drop] at h1 h4
  omega
theorem Own.some {α : Type} {enc : α → List Value} {e : TypeId} {k : Nat} {w : World} {base : Nat} {v : Value} {xs : List α} (h : Own enc e k w base v xs) (hx : xs ≠ []) : ∃ g c, v = .slice (some ⟨g, 0, none⟩) xs.length c := by
  rcases h.2 with ⟨hv, hx'⟩ | ⟨g, cap, cur, hv, _⟩
  · exact absurd (List.eq_nil_of_length_eq_zero (by simpa using hx')) hx
  · exact ⟨g, cap, hv⟩
def dropP (keep : List Int) (x : Lk) : Bool := !x.ghost && !keep.contains x.id
def dropsF (p : Pol) (l : List Lk) (live : Int) : List Int := (l.filter (dropP (keepF p l live))).map (·.id)
theorem filt_snoc (f : Lk → Bool) (l : List Lk) {k : Nat} (hk : k < l.length) : ((l.take (k + 1)).filter f).map (·.id) = ((l.take k).filter f).map (·.id) ++ (if f l[k] = true then [l[k].id] else []) := by
  rw [List.take_succ_eq_append_getElem hk, List.filter_append, List.map_append]
  congr 1
  rw [List.filter_cons]
  split <;> rfl
theorem filt_len (f : Lk → Bool) (l : List Lk) : ((l.filter f).map (·.id)).length ≤ l.length := by
  rw [List.length_map]; exact List.length_filter_le _ _
def DropsOut (p : Pol) (l : List Lk) (live next : Int) (w : World) (e : Ending) (w' : World) : Prop :=
  (∃ v, e = .returned v ∧ Own encI 3 1 w' w.heap.size v (if (p.right && treeOk l live next) = true then dropsF p l live else [])) ∧ Ext w w'

set_option maxRecDepth 100000 in
set_option maxHeartbeats 2000000 in
theorem drops_any (L : LibC) (p : Pol) (A : Option Addr) (c : Nat) (l : List Lk) (live next now : Int) (w : World) (hl : Sl Lk.enc 6 w A l) (hn : l.length ≤ 9223372036854775807) (hlc : l.length ≤ c) (ht : Tabs w) (hs : ∀ x ∈ l, x.name.size ≤ 65536) (htm : ∀ x ∈ l, x.timed) :
    Calls Tryz.prog 15 #[.agg #[.int .i64 p.d, .int .i64 p.w, .int .i64 p.m, .int .i64 p.y], .agg #[.slice A l.length c, .int .i64 live, .int .i64 next, .int .u64 now]] w (DropsOut p l live next w) := by
  have HL := Lib.hid hl
  have HK := Lib.hid (fun w1 (h : Ext w w1) => keep_all L p A c l live next now w1 (hl.ext h) hn hlc (ht.ext h) hs htm)
  have HC := Lib.hid L.contains
  clear hl L htm hs ht
  have hgr : (p.right && treeOk l live next) = true ∨ (p.right && treeOk l live next) = false := by cases (p.right && treeOk l live next) <;> simp
  go_enter Tryz.func15, Tryz.ntmps15
  go_wp2_with fail
  have E0 := Lib.hid (((Ext.refl w).alloc (.cells #[.int .i64 p.d, .int .i64 p.w, .int .i64 p.m, .int .i64 p.y] 23)).alloc (.cells #[.slice A l.length c, .int .i64 live, .int .i64 next, .int .u64 now] 29))
  have B2 := Lib.hid (Blk.at_ (w.alloc (.cells #[.int .i64 p.d, .int .i64 p.w, .int .i64 p.m, .int .i64 p.y] 23)) 29 #[.slice A l.length c, .int .i64 live, .int .i64 next, .int .u64 now] (g := w.heap.size + 1) (by simp))
  refine (HK.out _ E0.out).mono ?_
  rcases hgr with hr | hr
  · have HRR := Lib.hid hr
    rintro e w1 ⟨hv, hx1⟩
    rw [if_pos hr] at hv
    obtain ⟨v, rfl, hv⟩ := hv
    obtain ⟨hl0, hl60⟩ := treeOk_len (l := l) (live := live) (next := next) (by simp only [Bool.and_eq_true] at hr; exact hr.2)
    obtain ⟨g, ck, rfl⟩ := Own.some hv (List.ne_nil_of_mem (one_keepF p l live))
    have hkl := keepF_len (p := p) (live := live) hl60
    have HD : Hid (dropsF p l live = (l.filter (dropP (keepF p l live))).map (·.id)) := Lib.hid rfl
    obtain ⟨kp, hkp⟩ : ∃ kp, keepF p l live = kp := ⟨_, rfl⟩
    rw [hkp] at hv hkl HD
    have HV := Lib.hid hv
    have E1 := Lib.hid (E0.out.trans hx1)
    have hw1 := hx1.size
    have C2 := Lib.hid (B2.out.ext hx1)
    have hw0 : w.heap.size + 1 < w1.heap.size := C2.out.lt
    have c0 : w1.cell? ⟨w.heap.size + 1, 0, none⟩ = some (.slice A l.length c) := C2.out.cell 0
    have hnil : ∀ W, (binOp .eql 33 (.slice (some ⟨g, 0, none⟩) kp.length ck) (.slice none 0 0)).run Tryz.prog W = .ok (.bool false) W := fun W => Lib.run_eql_slice_nil W _ _ _ _ _ _ _ Tryz.underlying33
    rw [hkp]
    clear hv hx1 B2 HK hkp hr
    go_wp2_with fail
    go_loopw [17, 6] (fun v17 v6 wr => ∃ (k : Nat), k ≤ l.length ∧ v17 = .int .i64 k ∧ Hid (Own encI 3 1 wr w1.heap.size v6 (((l.take k).filter (dropP kp)).map (·.id))) ∧ Hid (Ext w1 wr)) (fun v17 _ _ => l.length - (intOf v17).toNat)
    case atStart => exact ⟨0, by omega, rfl, Own.nil, Ext.refl w1⟩
    case round =>
      obtain ⟨k, hk, rfl, HO, HE⟩ := hrel
      by_cases hlt : k < l.length
      · obtain ⟨ad, rfl, hbb, x0, x1, x2, x3, x4, x5⟩ := Sl.at6 (HL.out.ext (E1.out.trans HE.out)) hlt
        have hs := filt_snoc (dropP kp) l hlt
        have hfl : ((l.take k).filter (dropP kp) |>.map (·.id)).length ≤ 60 := Nat.le_trans (filt_len _ _) (by rw [List.length_take]; omega)
        have hw2 := HE.out.size
        generalize l[k] = x at *
        generalize ((l.take k).filter (dropP kp)).map (·.id) = dk at *
        have HS := Lib.hid hs
        clear hs
        obtain ⟨A6, c6, rfl, _⟩ := HO.out.slice
        have HCC := Lib.hid (fun W (hW : Ext w1 W) => HC.out W g ck kp x.id ((HV.out.ext hW).sl encI_len rfl) hkl)
        have hg : x.ghost = true ∨ (x.ghost = false ∧ kp.contains x.id = true) ∨ (x.ghost = false ∧ kp.contains x.id = false) := by cases x.ghost <;> cases kp.contains x.id <;> simp
        have HDP : Hid (dropP kp x = (!x.ghost && !kp.contains x.id)) := Lib.hid rfl
        obtain ⟨b, hb⟩ : ∃ b, kp.contains x.id = b := ⟨_, rfl⟩
        rw [hb] at HCC HDP hg
        clear hb
        rcases hg with hg | ⟨hg, rfl⟩ | ⟨hg, rfl⟩
        all_goals
          go_wp2_with (first
            | (go_at_call 37; refine (HCC.out _ (HE.out.alloc _)).mono ?_; rintro e w2 ⟨rfl, rfl⟩)
            | (at_builtin; go_must (refine wp_app rfl (.tmp 31) (.tmp 34) 33 rfl Tryz.underlying33 info_int rfl (by decide) encI_len encI_one w1.heap.size (.slice A6 dk.length c6) dk rfl ((HO.out.alloc _).alloc _) _ 1 1 [x.id] rfl rfl (Sl.one _ 3 x.id _ rfl (by simp)) (by simp; omega) (by simp; omega) (by simp; omega) ?_; intro v6 w6 hown6 hg6 _; have HO6 := Lib.hid hown6; have HE6 := Lib.hid (Own.step ((HO.out.alloc _).alloc _) ((HE.out.alloc _).alloc _) hg6); clear hown6 hg6)))
          go_roundw
          case measure => simp [intOf]; omega
        · refine ⟨k + 1, by omega, by go_num, ?_, HE.out.alloc _⟩
          rw [HS.out, HDP.out, hg]; refine Lib.hid ?_; simpa using HO.out.alloc _
        · refine ⟨k + 1, by omega, by go_num, ?_, HE.out.alloc _⟩
          rw [HS.out, HDP.out, hg]; refine Lib.hid ?_; simpa using HO.out.alloc _
        · refine ⟨k + 1, by omega, by go_num, ?_, HE6.out⟩
          rw [HS.out, HDP.out, hg]; refine Lib.hid ?_; simpa using HO6.out
      · obtain rfl : k = l.length := by omega
        rw [List.take_length, ← HD.out] at HO
        go_wp2_with fail
        go_ret
        exact ⟨⟨_, rfl, by rw [if_pos HRR.out]; exact HO.out.low (by omega)⟩, E1.out.trans HE.out⟩
  · have HRR := Lib.hid hr
    rintro e w1 ⟨hv, hx1⟩
    rw [if_neg (by rw [hr]; simp)] at hv
    subst hv
    have E1 := Lib.hid (E0.out.trans hx1)
    have hnil : ∀ W, (binOp .eql 33 (.slice none 0 0) (.slice none 0 0)).run Tryz.prog W = .ok (.bool true) W := fun W => Lib.run_eql_slice_nil W _ _ _ _ _ _ _ Tryz.underlying33
    clear hx1 hr
    go_wp2_with fail
    go_ret
    exact ⟨⟨_, rfl, by rw [HRR.out]; exact Own.nil⟩, E1.out⟩
end Go.Proofs.YtdnmpkdnfockgaaGreatDoor
