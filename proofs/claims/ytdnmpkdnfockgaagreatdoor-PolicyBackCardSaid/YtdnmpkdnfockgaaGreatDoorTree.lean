/-
  What Link.well and tree.Right come to.
-/
import Derived.Test.YtdnmpkdnfockgaaGreatDoorName
import Derived.Test.YtdnmpkdnfockgaaGreatDoorFind
import Derived.Deep.QuietTactic
import Derived.BigQuiet
import Derived.Deep.DeepCutAuto
import Derived.Deep.CutBlock
import Derived.Deep.RegionWith
import Derived.Deep.RegionHeld3
namespace Go.Proofs.YtdnmpkdnfockgaaGreatDoor
open Go.RowKit

def ghostOk (x : Lk) : Bool := x.name.toList.isEmpty && (x.time == 0 && !x.pin)
def Lk.well (x : Lk) : Bool := if x.ghost = true then ghostOk x else nameOk x.name

set_option maxHeartbeats 400000 in
theorem well_any (HV : ValidC) (x : Lk) (w : World) (hs : x.name.size ≤ 65536) (ht : Tabs w) :
    Calls Tryz.prog 28 #[.agg #[.int .i64 x.id, .int .i64 x.parent, .string x.name, .int .u64 x.time, .bool x.ghost, .bool x.pin]] w fun e w' => e = .returned (.bool x.well) ∧ Ext w w' := by
  have H := Lib.hid (fun w1 (h : Ext w w1) => nameRight_any HV x.name w1 hs (ht.ext h))
  clear HV ht
  have hcase : x.ghost = true ∨ x.ghost = false := by cases x.ghost <;> simp
  rcases hcase with hg | hg
  · go_enter Tryz.func28, Tryz.ntmps28
    go_wp2
    all_goals
      go_ret
      refine ⟨ret_bool ?_, (Ext.refl w).alloc _⟩
      unfold Lk.well ghostOk
      simp_all
  · go_enter Tryz.func28, Tryz.ntmps28
    go_wp2_with (go_at_call 54; refine (H.out _ ((Ext.refl w).alloc _)).mono ?_; rintro e w1 ⟨rfl, hx⟩)
    go_ret
    exact ⟨ret_bool (by unfold Lk.well; rw [if_neg (by rw [hg]; simp)]), ((Ext.refl w).alloc _).trans hx⟩

theorem find_at (A : Option Addr) (c n : Nat) (l : List Lk) (live next now id : Int) (w : World) (hl : Sl Lk.enc 6 w A l) (hln : l.length = n) (hn : n ≤ 9223372036854775807) :
    Calls Tryz.prog 27 #[.agg #[.slice A n c, .int .i64 live, .int .i64 next, .int .u64 now], .int .i64 id] w fun e w' =>
      e = .returned (.tuple #[.agg #[.int .i64 (findL l id).id, .int .i64 (findL l id).parent, .string (findL l id).name, .int .u64 (findL l id).time, .bool (findL l id).ghost, .bool (findL l id).pin], .bool (hasL l id)]) ∧ Ext w w' := by
  subst hln
  exact find_any A c l live next now id w hl hn

def firstB (x : Lk) : Bool := (x.id == 1) && ((x.parent == 0) && !x.ghost)
def okAt (l : List Lk) (i : Nat) (x : Lk) : Bool := x.well && (if i = 0 then firstB x else (hasL (l.take i) x.parent && decide ((l.getD (i - 1) zeroLk).id < x.id)))
def treeOk (l : List Lk) (live next : Int) : Bool :=
  decide (0 < l.length) && (decide (l.length ≤ 60) && ((List.range l.length).all (fun i => okAt l i (l.getD i zeroLk)) && (hasL l live && (decide ((l.getD (l.length - 1) zeroLk).id < next) && decide (next ≤ 2147483647)))))

set_option maxRecDepth 100000 in
set_option maxHeartbeats 2000000 in
theorem treeRight_any (HV : ValidC) (A : Option Addr) (c : Nat) (l : List Lk) (live next now : Int) (w : World) (hl : Sl Lk.enc 6 w A l) (hn : l.length ≤ 9223372036854775807) (hlc : l.length ≤ c) (ht : Tabs w) (hs : ∀ x ∈ l, x.name.size ≤ 65536) :
    Calls Tryz.prog 11 #[.agg #[.slice A l.length c, .int .i64 live, .int .i64 next, .int .u64 now]] w fun e w' => e = .returned (.bool (treeOk l live next)) ∧ Ext w w' := by
  have HL := Lib.hid hl
  have HT := Lib.hid ht
  have HVV := Lib.hid HV
  have HS := Lib.hid hs
  clear hl ht HV hs
  by_cases h0 : 0 < l.length
  · by_cases h60 : l.length ≤ 60
    · have h0b : ((l.length : Int) == 0) = false := beq_eq_false_iff_ne.2 (by omega)
      go_enter Tryz.func11, Tryz.ntmps11
      go_wp2
      go_loopw [24] (fun v24 wr => ∃ (k : Nat), k ≤ l.length ∧ v24 = .int .i64 k ∧ Hid (∀ j, j < k → okAt l j (l.getD j zeroLk) = true) ∧ Hid (Ext (w.alloc (.cells #[.slice A l.length c, .int .i64 live, .int .i64 next, .int .u64 now] 29)) wr)) (fun v24 _ => l.length - (intOf v24).toNat)
      case atStart => exact ⟨0, by omega, rfl, fun j h => absurd h (by omega), Ext.refl _⟩
      case round =>
        obtain ⟨k, hk, rfl, HC, HE⟩ := hrel
        have hbt := (Blk.at_ w 29 #[.slice A l.length c, .int .i64 live, .int .i64 next, .int .u64 now] rfl).ext HE.out
        have ct : wr.cell? ⟨w.heap.size, 0, none⟩ = some (.slice A l.length c) := hbt.cell 0
        have hlt0 := hbt.lt
        have HBT := Lib.hid hbt
        clear hbt
        by_cases hlt : k < l.length
        · obtain ⟨ad, rfl, hbb, c0, c1, c2, c3, c4, c5⟩ := Sl.at6 (HL.out.ext (((Ext.refl w).alloc _).trans HE.out)) hlt
          obtain ⟨x, hx⟩ : ∃ x, l[k] = x := ⟨_, rfl⟩
          rw [hx] at c0 c1 c2 c3 c4 c5
          have HX := Lib.hid hx
          clear hx
          go_upto_region 9 with (fail)
          refine (find_at (some ad) c k (l.take k) 0 0 0 x.parent _ ((HL.out.ext (((Ext.refl w).alloc _).trans HE.out)).take k |>.ext (((Ext.refl wr).alloc _).alloc _)) (by rw [List.length_take]; omega) (by omega)).mono ?_
          rintro e w1 ⟨rfl, hx1⟩
          have hb4 := ((Blk.at_ wr 37 #[.int .i64 x.id, .int .i64 x.parent, .string x.name, .int .u64 x.time, .bool x.ghost, .bool x.pin] rfl).alloc _).ext hx1
          have hsz : wr.heap.size + 2 ≤ w1.heap.size := by have := hx1.size; simp at this; omega
          have hlt1 : wr.heap.size < w1.heap.size := by omega
          have hlt2 : w.heap.size < w1.heap.size := by omega
          have HE1 := Lib.hid (HE.out.trans ((((Ext.refl wr).alloc _).alloc _).trans hx1))
          have HBT1 := Lib.hid (((HBT.out.alloc _).alloc _).ext hx1)
          have ct1 : w1.cell? ⟨w.heap.size, 0, none⟩ = some (.slice (some ad) l.length c) := HBT1.out.cell 0
          have HB4 := Lib.hid hb4
          have d0 : w1.cell? ⟨wr.heap.size, 0, none⟩ = some (.int .i64 x.id) := hb4.cell 0
          have d1 : w1.cell? ⟨wr.heap.size, 1, none⟩ = some (.int .i64 x.parent) := hb4.cell 1
          have d2 : w1.cell? ⟨wr.heap.size, 2, none⟩ = some (.string x.name) := hb4.cell 2
          have d3 : w1.cell? ⟨wr.heap.size, 3, none⟩ = some (.int .u64 x.time) := hb4.cell 3
          have d5 : w1.cell? ⟨wr.heap.size, 5, none⟩ = some (.bool x.pin) := hb4.cell 5
          have d4 : w1.cell? ⟨wr.heap.size, 4, none⟩ = some (.bool x.ghost) := hb4.cell 4
          clear hx1 hb4 c0 c1 c2 c3 c4 c5 ct HBT
          generalize findL (l.take k) x.parent = y at *
          obtain ⟨on, hon⟩ : ∃ on, hasL (l.take k) x.parent = on := ⟨_, rfl⟩
          rw [hon]
          have HON := Lib.hid hon
          clear hon
          go_upto_region 8 with (fail)
          go_cut [8] (fun v8 wc => v8 = .bool (firstB x) ∧ wc = w1.alloc (.cells #[.int .i64 y.id, .int .i64 y.parent, .string y.name, .int .u64 y.time, .bool y.ghost, .bool y.pin] 37))
          case first =>
            go_wp2
            all_goals go_meet
            all_goals refine ⟨?_, rfl⟩
            all_goals simp_all [firstB]
          case rest =>
            obtain ⟨rfl, rfl⟩ := hcut
            obtain ⟨fb, hfb⟩ : ∃ fb, firstB x = fb := ⟨_, rfl⟩
            rw [hfb]
            have HF := Lib.hid hfb
            clear hfb
            go_upto_region 9 with (fail)
            go_cut [84] (fun v84 wc => v84 = .bool (!okAt l k x) ∧ Hid (Ext w1 wc))
            case first =>
              have hW := fun w2 (h : Ext w w2) => well_any HVV.out x w2 (HS.out x (by rw [← HX.out]; exact List.getElem_mem hlt)) (HT.out.ext h)
              have hcw : x.well = true ∨ x.well = false := by cases x.well <;> simp
              have HEc := Lib.hid ((((Ext.refl w).alloc _).trans HE1.out).alloc (.cells #[.int .i64 y.id, .int .i64 y.parent, .string y.name, .int .u64 y.time, .bool y.ghost, .bool y.pin] 37))
              have hold : ∀ (p : Addr) (v : Value), w1.cell? p = some v → ∀ z : EW (w1.alloc (.cells #[.int .i64 y.id, .int .i64 y.parent, .string y.name, .int .u64 y.time, .bool y.ghost, .bool y.pin] 37)), z.w.cell? p = some v := fun p v h => EW.cell (((Ext.refl w1).alloc _).cellv h)
              have g0 := hold _ _ d0; have g1 := hold _ _ d1; have g2 := hold _ _ d2; have g3 := hold _ _ d3; have g4 := hold _ _ d4; have g5 := hold _ _ d5
              have gt := hold _ _ ct1
              clear hold
              rcases hcw with hw1 | hw1
              · rw [hw1] at hW
                have HW := Lib.hid hW
                clear hW
                have HWE := Lib.hid hw1
                clear hw1
                by_cases hk0 : 0 < k
                · have hkb : ((k : Int) == 0) = false := beq_eq_false_iff_ne.2 (by omega)
                  have hnz : ¬ k = 0 := by omega
                  obtain ⟨ad', e', _, p0, _⟩ := Sl.at6 (HL.out.ext HEc.out) (show k - 1 < l.length by omega)
                  cases e'
                  have gp := EW.cell p0
                  clear p0
                  have hgd : l[k - 1] = l.getD (k - 1) zeroLk := by rw [List.getD_eq_getElem?_getD, List.getElem?_eq_getElem (show k - 1 < l.length by omega)]; rfl
                  rw [hgd] at gp
                  clear hgd
                  have hs : okAt l k x = (on && decide ((l.getD (k - 1) zeroLk).id < x.id)) := by unfold okAt; rw [HWE.out, if_neg hnz, HON.out, Bool.true_and]
                  have HSS := Lib.hid hs
                  clear hs
                  generalize (l.getD (k - 1) zeroLk).id = pid at *
                  cases on with
                  | false =>
                    refine wp_region_ext (by kernel_rfl) (by kernel_rfl) ?_
                    repeat (go_big_quiet_step (((go_at_call 28; exact EW.calls _ (HW.out _ (Ext.trans HEc.out (EW.h _)))))))
                    refine wpQuiet_nil ?_
                    rintro _ ⟨y1, rfl⟩
                    go_wp2_with fail
                    go_meet
                    exact ⟨by rw [HSS.out]; rfl, ((Ext.refl w1).alloc _).trans y1.h⟩
                  | true =>
                    refine wp_region_ext (by kernel_rfl) (by kernel_rfl) ?_
                    repeat (go_big_quiet_step (((go_at_call 28; exact EW.calls _ (HW.out _ (Ext.trans HEc.out (EW.h _)))))))
                    refine wpQuiet_nil ?_
                    rintro _ ⟨y1, rfl⟩
                    go_wp2_with fail
                    go_meet
                    refine ⟨?_, ((Ext.refl w1).alloc _).trans y1.h⟩
                    rw [HSS.out, Bool.true_and]
                    simp only [← decide_not, Int.not_lt]
                · have hkb : ((k : Int) == 0) = true := beq_iff_eq.2 (by omega)
                  have hz : k = 0 := by omega
                  have hs : okAt l k x = fb := by unfold okAt; rw [HWE.out, if_pos hz, HF.out, Bool.true_and]
                  have HSS := Lib.hid hs
                  clear hs hz
                  cases fb
                  all_goals
                    refine wp_region_ext (by kernel_rfl) (by kernel_rfl) ?_
                    repeat (go_big_quiet_step (((go_at_call 28; exact EW.calls _ (HW.out _ (Ext.trans HEc.out (EW.h _)))))))
                    refine wpQuiet_nil ?_
                    rintro _ ⟨y1, rfl⟩
                    go_wp2_with fail
                    go_meet
                    exact ⟨by rw [HSS.out]; rfl, ((Ext.refl w1).alloc _).trans y1.h⟩
              · rw [hw1] at hW
                have HW := Lib.hid hW
                clear hW
                have hs : okAt l k x = false := by unfold okAt; rw [hw1, Bool.false_and]
                have HSS := Lib.hid hs
                clear hs
                refine wp_region_ext (by kernel_rfl) (by kernel_rfl) ?_
                repeat (go_big_quiet_step (((go_at_call 28; exact EW.calls _ (HW.out _ (Ext.trans HEc.out (EW.h _)))))))
                refine wpQuiet_nil ?_
                rintro _ ⟨y1, rfl⟩
                go_wp2_with fail
                go_meet
                exact ⟨by rw [HSS.out]; rfl, ((Ext.refl w1).alloc _).trans y1.h⟩
            case rest =>
              obtain ⟨rfl, HE2⟩ := hcut
              have HE3 := Lib.hid (HE1.out.trans HE2.out)
              have hgk : l.getD k zeroLk = x := by rw [List.getD_eq_getElem?_getD, List.getElem?_eq_getElem hlt, ← HX.out]; rfl
              have HGK := Lib.hid hgk
              clear hgk
              have hco : okAt l k x = true ∨ okAt l k x = false := by cases okAt l k x <;> simp
              rcases hco with ho | ho
              · have HO := Lib.hid ho
                rw [ho]
                clear ho
                go_wp2
                go_roundw
                case measure => simp [intOf]; omega
                case rel =>
                  refine ⟨k + 1, by omega, by go_num, fun j hj => ?_, HE3.out⟩
                  by_cases e : j = k
                  · subst e; rw [HGK.out]; exact HO.out
                  · exact HC.out j (by omega)
              · have HO := Lib.hid ho
                rw [ho]
                clear ho
                go_wp2
                go_ret
                refine ⟨ret_bool ?_, ((Ext.refl w).alloc _).trans HE3.out⟩
                have hall : (List.range l.length).all (fun i => okAt l i (l.getD i zeroLk)) = false := by
                  rw [List.all_eq_false]
                  exact ⟨k, List.mem_range.2 hlt, by rw [HGK.out, HO.out]; simp⟩
                unfold treeOk
                rw [hall]
                simp
        · obtain rfl : k = l.length := by omega
          have hall : (List.range l.length).all (fun i => okAt l i (l.getD i zeroLk)) = true := by
            rw [List.all_eq_true]
            exact fun i hi => HC.out i (List.mem_range.1 hi)
          have htk : treeOk l live next = (hasL l live && (decide ((l.getD (l.length - 1) zeroLk).id < next) && decide (next ≤ 2147483647))) := by
            unfold treeOk
            rw [hall, decide_eq_true h0, decide_eq_true h60, Bool.true_and, Bool.true_and, Bool.true_and]
          have HTK := Lib.hid htk
          clear hall htk HC
          have ct1 : wr.cell? ⟨w.heap.size, 1, none⟩ = some (.int .i64 live) := HBT.out.cell 1
          have ct2 : wr.cell? ⟨w.heap.size, 2, none⟩ = some (.int .i64 next) := HBT.out.cell 2
          have ct3 : wr.cell? ⟨w.heap.size, 3, none⟩ = some (.int .u64 now) := HBT.out.cell 3
          go_wp2_with fail
          refine (find_any A c l live next now live _ (HL.out.ext (((Ext.refl w).alloc _).trans HE.out)) hn).mono ?_
          rintro e w1 ⟨rfl, hx1⟩
          have HE1 := Lib.hid (HE.out.trans hx1)
          have HBT1 := Lib.hid (HBT.out.ext hx1)
          have hlt2 := HBT1.out.lt
          clear hx1 ct ct1 ct2 ct3 HBT
          generalize findL l live = y at *
          obtain ⟨on, hon⟩ : ∃ on, hasL l live = on := ⟨_, rfl⟩
          rw [hon] at HTK ⊢
          clear hon
          go_upto_region 13 with (fail)
          obtain ⟨ad, rfl, _, p0, _⟩ := Sl.at6 (HL.out.ext (((Ext.refl w).alloc _).trans HE1.out)) (show l.length - 1 < l.length by omega)
          have hgd : l[l.length - 1] = l.getD (l.length - 1) zeroLk := by rw [List.getD_eq_getElem?_getD, List.getElem?_eq_getElem (show l.length - 1 < l.length by omega)]; rfl
          rw [hgd] at p0
          clear hgd
          have hold : ∀ (p : Addr) (v : Value), w1.cell? p = some v → ∀ z : EW (w1.alloc (.cells #[.int .i64 y.id, .int .i64 y.parent, .string y.name, .int .u64 y.time, .bool y.ghost, .bool y.pin] 37)), z.w.cell? p = some v := fun p v h => EW.cell (((Ext.refl w1).alloc _).cellv h)
          have gp := hold _ _ p0
          have gt : ∀ z : EW (w1.alloc (.cells #[.int .i64 y.id, .int .i64 y.parent, .string y.name, .int .u64 y.time, .bool y.ghost, .bool y.pin] 37)), z.w.cell? ⟨w.heap.size, 0, none⟩ = some (.slice (some ad) l.length c) := hold _ _ (HBT1.out.cell 0)
          have gn : ∀ z : EW (w1.alloc (.cells #[.int .i64 y.id, .int .i64 y.parent, .string y.name, .int .u64 y.time, .bool y.ghost, .bool y.pin] 37)), z.w.cell? ⟨w.heap.size, 2, none⟩ = some (.int .i64 next) := hold _ _ (HBT1.out.cell 2)
          clear hold p0
          generalize (l.getD (l.length - 1) zeroLk).id = pid at *
          cases on with
          | false =>
            refine wp_region_ext (by kernel_rfl) (by kernel_rfl) ?_
            repeat (go_big_quiet_step (fail))
            refine wpQuiet_nil ?_
            rintro _ ⟨y1, rfl⟩
            go_wp2_with fail
            go_ret
            exact ⟨ret_bool (by rw [HTK.out]; rfl), ((((Ext.refl w).alloc _).trans HE1.out).alloc _).trans y1.h⟩
          | true =>
            by_cases hpn : pid < next
            · refine wp_region_ext (by kernel_rfl) (by kernel_rfl) ?_
              repeat (go_big_quiet_step (fail))
              refine wpQuiet_nil ?_
              rintro _ ⟨y1, rfl⟩
              go_wp2_with fail
              go_ret
              exact ⟨ret_bool (by rw [HTK.out, decide_eq_true hpn]; rfl), ((((Ext.refl w).alloc _).trans HE1.out).alloc _).trans y1.h⟩
            · refine wp_region_ext (by kernel_rfl) (by kernel_rfl) ?_
              repeat (go_big_quiet_step (fail))
              refine wpQuiet_nil ?_
              rintro _ ⟨y1, rfl⟩
              go_wp2_with fail
              go_ret
              exact ⟨ret_bool (by rw [HTK.out, decide_eq_false (Int.not_lt.2 (Int.not_lt.1 (by omega)))]; rfl), ((((Ext.refl w).alloc _).trans HE1.out).alloc _).trans y1.h⟩
    · have h0b : ((l.length : Int) == 0) = false := beq_eq_false_iff_ne.2 (by omega)
      have h60' : 60 < l.length := by omega
      go_enter Tryz.func11, Tryz.ntmps11
      go_wp2
      go_ret
      exact ⟨ret_bool (by unfold treeOk; simp [h0, h60]), (Ext.refl w).alloc _⟩
  · have h0b : ((l.length : Int) == 0) = true := beq_iff_eq.2 (by omega)
    go_enter Tryz.func11, Tryz.ntmps11
    go_wp2
    go_ret
    exact ⟨ret_bool (by unfold treeOk; rw [decide_eq_false h0, Bool.false_and]), (Ext.refl w).alloc _⟩
end Go.Proofs.YtdnmpkdnfockgaaGreatDoor
