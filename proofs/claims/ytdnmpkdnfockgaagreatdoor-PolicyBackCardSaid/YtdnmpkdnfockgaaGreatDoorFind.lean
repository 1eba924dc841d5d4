/-
  What tree.Find comes to: the first link of a number, or none.
-/
import Derived.Test.YtdnmpkdnfockgaaGreatDoorLatest
namespace Go.Proofs.YtdnmpkdnfockgaaGreatDoor
open Go.RowKit

def zeroLk : Lk := ⟨0, 0, ⟨#[]⟩, 0, false, false⟩
def findL (l : List Lk) (id : Int) : Lk := (l.find? (fun x => x.id == id)).getD zeroLk
def hasL (l : List Lk) (id : Int) : Bool := l.any (fun x => x.id == id)
def idxL (l : List Lk) (id : Int) : Int := if hasL l id = true then (l.findIdx (fun x => x.id == id) : Int) else -1

set_option maxHeartbeats 400000 in
theorem find1_any (x : Lk) (g : Nat) (id : Int) (w : World) (hb : Blk w g 3 #[.int .i64 id]) :
    Calls Tryz.prog 53 #[.agg #[.int .i64 x.id, .int .i64 x.parent, .string x.name, .int .u64 x.time, .bool x.ghost, .bool x.pin], .pointer (some ⟨g, 0, none⟩)] w fun e w' => e = .returned (.bool (x.id == id)) ∧ Ext w w' := by
  have hlt := hb.lt
  have hc := hb.cell 0
  clear hb
  go_enter Tryz.func53, Tryz.ntmps53
  go_wp2
  go_ret
  exact ⟨rfl, (Ext.refl w).alloc _⟩

theorem hasL_false {l : List Lk} {id : Int} (h : ∀ j (h : j < l.length), (l[j].id == id) = false) : hasL l id = false := by
  unfold hasL
  rw [List.any_eq_false]
  intro x hx
  obtain ⟨j, hj, rfl⟩ := List.getElem_of_mem hx
  rw [h j hj]; simp
theorem hasL_true {l : List Lk} {id : Int} {k : Nat} (hk : k < l.length) (h : (l[k].id == id) = true) : hasL l id = true := by
  unfold hasL
  exact List.any_eq_true.2 ⟨l[k], List.getElem_mem hk, h⟩
theorem idxL_none {l : List Lk} {id : Int} (h : hasL l id = false) : idxL l id = -1 := by unfold idxL; rw [h]; simp
theorem idxL_at {l : List Lk} {id : Int} {k : Nat} (hk : k < l.length) (h0 : ∀ j (h : j < l.length), j < k → (l[j].id == id) = false) (h : (l[k].id == id) = true) : idxL l id = (k : Int) := by
  unfold idxL
  rw [hasL_true hk h, if_pos rfl]
  congr 1
  refine (List.findIdx_eq hk).2 ⟨h, fun j hj => h0 j (by omega) hj⟩
theorem findL_at {l : List Lk} {id : Int} (h : hasL l id = true) : ∃ k, ∃ hk : k < l.length, idxL l id = (k : Int) ∧ l[k] = findL l id ∧ (l[k].id == id) = true := by
  have hk : l.findIdx (fun x => x.id == id) < l.length := by
    rw [List.findIdx_lt_length]
    obtain ⟨x, hx, hp⟩ := List.any_eq_true.1 h
    exact ⟨x, hx, hp⟩
  refine ⟨_, hk, by unfold idxL; rw [if_pos h], ?_, List.findIdx_getElem (w := hk)⟩
  unfold findL
  rw [List.find?_eq_getElem?_findIdx, List.getElem?_eq_getElem hk]
  rfl

set_option maxHeartbeats 1000000 in
theorem indexFunc_any (A : Option Addr) (c : Nat) (l : List Lk) (g : Nat) (id : Int) (w : World) (hl : Sl Lk.enc 6 w A l) (hb : Blk w g 3 #[.int .i64 id]) (hn : l.length ≤ 9223372036854775807) :
    Calls Tryz.prog 52 #[.slice A l.length c, .func (.func 53) #[] #[.pointer (some ⟨g, 0, none⟩)]] w fun e w' => e = .returned (.int .i64 (idxL l id)) ∧ Ext w w' := by
  have HL := Lib.hid hl
  have HB := Lib.hid hb
  clear hl hb
  go_enter Tryz.func52, Tryz.ntmps52
  go_wp2
  go_loopw [8] (fun v8 wr => ∃ (k : Nat), k ≤ l.length ∧ v8 = .int .i64 k ∧ Hid (∀ j (h : j < l.length), j < k → (l[j].id == id) = false) ∧ Hid (Ext w wr)) (fun v8 _ => l.length - (intOf v8).toNat)
  case atStart => exact ⟨0, Nat.zero_le _, rfl, fun j _ h => absurd h (by omega), Ext.refl w⟩
  case round =>
    obtain ⟨k, hk, rfl, HC, HE⟩ := hrel
    by_cases hlt : k < l.length
    · obtain ⟨ad, rfl, hbb, c0, c1, c2, c3, c4, c5⟩ := Sl.at6 (HL.out.ext HE.out) hlt
      obtain ⟨x, hx⟩ : ∃ x, l[k] = x := ⟨_, rfl⟩
      rw [hx] at c0 c1 c2 c3 c4 c5
      have HX := Lib.hid hx
      clear hx
      have hcase : (x.id == id) = true ∨ (x.id == id) = false := by cases x.id == id <;> simp
      rcases hcase with he | he
      · have HD := Lib.hid he
        go_wp2_with (go_at_call 53; refine (find1_any x g id _ (HB.out.ext HE.out)).mono ?_; rintro e w1 ⟨rfl, hx1⟩; have HE1 := Lib.hid (HE.out.trans hx1); clear hx1)
        go_ret
        exact ⟨ret_int (idxL_at hlt HC.out (by rw [HX.out]; exact HD.out)).symm, HE1.out⟩
      · have HD := Lib.hid he
        go_wp2_with (go_at_call 53; refine (find1_any x g id _ (HB.out.ext HE.out)).mono ?_; rintro e w1 ⟨rfl, hx1⟩; have HE1 := Lib.hid (HE.out.trans hx1); clear hx1)
        go_roundw
        case measure => simp [intOf]; omega
        case rel =>
          refine ⟨k + 1, by omega, by go_num, fun j hj hjk => ?_, HE1.out⟩
          by_cases e : j = k
          · subst e; rw [HX.out]; exact HD.out
          · exact HC.out j hj (by omega)
    · go_wp2
      go_ret
      exact ⟨ret_int (idxL_none (hasL_false fun j hj => HC.out j hj (by omega))).symm, HE.out⟩

set_option maxHeartbeats 1000000 in
theorem find_any (A : Option Addr) (c : Nat) (l : List Lk) (live next now id : Int) (w : World) (hl : Sl Lk.enc 6 w A l) (hn : l.length ≤ 9223372036854775807) :
    Calls Tryz.prog 27 #[.agg #[.slice A l.length c, .int .i64 live, .int .i64 next, .int .u64 now], .int .i64 id] w fun e w' =>
      e = .returned (.tuple #[.agg #[.int .i64 (findL l id).id, .int .i64 (findL l id).parent, .string (findL l id).name, .int .u64 (findL l id).time, .bool (findL l id).ghost, .bool (findL l id).pin], .bool (hasL l id)]) ∧ Ext w w' := by
  have HL := Lib.hid hl
  clear hl
  have hmf : ∀ (fn : Fn) (first cap : Array Value) (w : World), (Instr.makeFunc fn first cap).run Tryz.prog w = .ok (.func fn first cap) w := fun _ _ _ _ => rfl
  have H := fun (w1 : World) (hx : Ext ((w.alloc (.cells #[.slice A l.length c, .int .i64 live, .int .i64 next, .int .u64 now] 29)).alloc (.cells #[.int .i64 id] 3)) w1) => indexFunc_any A c l (w.heap.size + 1) id w1 (HL.out.ext ((((Ext.refl w).alloc _).alloc _).trans hx)) ((Blk.at_ (w.alloc _) 3 #[.int .i64 id] (by simp)).ext hx) hn
  have HI := Lib.hid H
  clear H
  have hcase : hasL l id = true ∨ hasL l id = false := by cases hasL l id <;> simp
  rcases hcase with hh | hh
  · obtain ⟨k, hk, hi, hx, _⟩ := findL_at hh
    have HH := Lib.hid hh
    rw [hi] at HI
    clear hi hh
    obtain ⟨ad, rfl, hbb, c0, c1, c2, c3, c4, c5⟩ := Sl.at6 HL.out hk
    rw [hx] at c0 c1 c2 c3 c4 c5
    clear hx
    have C := Lib.hid (And.intro c0 (And.intro c1 (And.intro c2 (And.intro c3 (And.intro c4 c5)))))
    clear c0 c1 c2 c3 c4 c5
    generalize findL l id = x at *
    go_enter Tryz.func27, Tryz.ntmps27
    go_wp2_with fail
    refine (HI.out _ ((Ext.refl _).alloc _)).mono ?_
    rintro e w1 ⟨rfl, hx1⟩
    have b0 := (((Blk.at_ w 29 #[.slice (some ad) l.length c, .int .i64 live, .int .i64 next, .int .u64 now] rfl).alloc _).alloc _).ext hx1
    have b2 := (Blk.at_ ((w.alloc (.cells #[.slice (some ad) l.length c, .int .i64 live, .int .i64 next, .int .u64 now] 29)).alloc (.cells #[.int .i64 id] 3)) 37 #[.int .i64 0, .int .i64 0, .string ⟨#[]⟩, .int .u64 0, .bool false, .bool false] (g := w.heap.size + 1 + 1) (by simp)).ext hx1
    have hsz := hx1.size
    have HE := Lib.hid (((((Ext.refl w).alloc _).alloc _).alloc _).trans hx1)
    have d0 := b0.cell 0
    have e0 := b2.cell 0; have e1 := b2.cell 1; have e2 := b2.cell 2; have e3 := b2.cell 3; have e4 := b2.cell 4; have e5 := b2.cell 5
    have f0 := b2.frozen 0; have f1 := b2.frozen 1; have f2 := b2.frozen 2; have f3 := b2.frozen 3; have f4 := b2.frozen 4; have f5 := b2.frozen 5
    clear b0 b2 hx1 HI
    obtain ⟨c0, c1, c2, c3, c4, c5⟩ := C.out
    replace c0 := HE.out.cellv c0; replace c1 := HE.out.cellv c1; replace c2 := HE.out.cellv c2; replace c3 := HE.out.cellv c3; replace c4 := HE.out.cellv c4; replace c5 := HE.out.cellv c5
    go_wp2
    exact bodyPost_ret (v := .tuple #[.agg #[.int .i64 x.id, .int .i64 x.parent, .string x.name, .int .u64 x.time, .bool x.ghost, .bool x.pin], .bool true]) (by simp [results, Tryz.results27, go_sem, e0, e1, e2, e3, e4, e5]) rfl ⟨by rw [HH.out], by repeat (first | with_reducible exact HE.out | with_reducible refine Ext.setCell ?_ (by dsimp only; omega) _)⟩
  · have HH := Lib.hid hh
    rw [idxL_none hh] at HI
    have hz : findL l id = zeroLk := by
      unfold findL
      rw [List.find?_eq_none.2 (fun x hx => ?_)]
      · rfl
      · unfold hasL at hh
        exact List.any_eq_false.1 hh x hx
    rw [hz]
    clear hh hz
    go_enter Tryz.func27, Tryz.ntmps27
    go_wp2_with fail
    refine (HI.out _ ((Ext.refl _).alloc _)).mono ?_
    rintro e w1 ⟨rfl, hx1⟩
    have b0 := (((Blk.at_ w 29 #[.slice A l.length c, .int .i64 live, .int .i64 next, .int .u64 now] rfl).alloc _).alloc _).ext hx1
    have b2 := (Blk.at_ ((w.alloc (.cells #[.slice A l.length c, .int .i64 live, .int .i64 next, .int .u64 now] 29)).alloc (.cells #[.int .i64 id] 3)) 37 #[.int .i64 0, .int .i64 0, .string ⟨#[]⟩, .int .u64 0, .bool false, .bool false] (g := w.heap.size + 1 + 1) (by simp)).ext hx1
    have hsz := hx1.size
    have HE := Lib.hid (((((Ext.refl w).alloc _).alloc _).alloc _).trans hx1)
    have d0 := b0.cell 0
    have e0 := b2.cell 0; have e1 := b2.cell 1; have e2 := b2.cell 2; have e3 := b2.cell 3; have e4 := b2.cell 4; have e5 := b2.cell 5
    have f0 := b2.frozen 0; have f1 := b2.frozen 1; have f2 := b2.frozen 2; have f3 := b2.frozen 3; have f4 := b2.frozen 4; have f5 := b2.frozen 5
    clear b0 b2 hx1 HI
    go_wp2
    exact bodyPost_ret (v := .tuple #[.agg #[.int .i64 zeroLk.id, .int .i64 zeroLk.parent, .string zeroLk.name, .int .u64 zeroLk.time, .bool zeroLk.ghost, .bool zeroLk.pin], .bool false]) (by simp [results, Tryz.results27, go_sem, e0, e1, e2, e3, e4, e5, zeroLk]) rfl ⟨by rw [HH.out], by repeat (first | with_reducible exact HE.out | with_reducible refine Ext.setCell ?_ (by dsimp only; omega) _)⟩
end Go.Proofs.YtdnmpkdnfockgaaGreatDoor
