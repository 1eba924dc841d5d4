/-
  What shown of rootcellarlaw16 comes to: true.
-/
import Derived.Test.YtdnmpkdnfockgaaGreatDoorParse
import Derived.Test.YtdnmpkdnfockgaaGreatDoorDrops
import Derived.Test.YtdnmpkdnfockgaaGreatDoorGrown
import Derived.Test.YtdnmpkdnfockgaaGreatDoorInts
namespace Go.Proofs.YtdnmpkdnfockgaaGreatDoor
open Go.RowKit

def shownN : List Nd := [⟨432000, false, 0⟩, ⟨432001, false, 0⟩, ⟨604800, false, 0⟩, ⟨777600, false, 0⟩]
def shownL : List Lk := linksF shownN 4
def nk (i : Int) (t : Int) : Lk := { id := i, parent := 1, name := ⟨#[110]⟩, time := t, ghost := false, pin := false }
theorem parse_d2 : parseF ⟨#[100, 50]⟩ = some ⟨2, 0, 0, 0⟩ := by kernel_rfl
theorem tree_shown : treeOk shownL 1 6 = true := by kernel_rfl
theorem right_shown : Pol.right ⟨2, 0, 0, 0⟩ = true := by kernel_rfl
theorem cand_shown : cand (shownL.drop 1) = [nk 2 432000, nk 3 432001, nk 4 604800, nk 5 777600] := by kernel_rfl
theorem srt_shown : srt (cand (shownL.drop 1)) = [nk 5 777600, nk 4 604800, nk 3 432001, nk 2 432000] := by
  rw [cand_shown]
  symm
  refine srt_one ?_ ?_ ?_
  · refine rise_lone ?_
    simp [nk]
  · exact List.reverse_perm [nk 2 432000, nk 3 432001, nk 4 604800, nk 5 777600]
  · simp [nk, leK_iff]
theorem keep_shown : keepF ⟨2, 0, 0, 0⟩ shownL 1 = [1, 4, 5] := by
  unfold keepF
  rw [srt_shown]
  refine rise_ext (keepOf_sorted ..) (by simp) (fun x => ?_)
  rw [keepOf_mem]
  have h1 : pinIds 1 (shownL.drop 1) = [] := by kernel_rfl
  have h2 : tiersF ⟨2, 0, 0, 0⟩ [nk 5 777600, nk 4 604800, nk 3 432001, nk 2 432000] 4 = [5, 4] := by kernel_rfl
  rw [h1, h2]
  simp
  omega
theorem drops_shown : dropsF ⟨2, 0, 0, 0⟩ shownL 1 = [2, 3] := by
  unfold dropsF
  rw [keep_shown]
  kernel_rfl

/-- All that the seat's laws ask of the library, P being what is asked of the world. -/
structure LibAll (P : World → Prop) : Prop where
  c : LibC
  s : LibS P
  tabs : ∀ w, P w → Tabs w

theorem Own.sl' {α : Type} {enc : α → List Value} {e : TypeId} {k : Nat} {w : World} {base : Nat} {xs : List α} {A : Option Addr} {n c : Nat} (hk : ∀ x : α, (enc x).length = k) (h : Own enc e k w base (.slice A n c) xs) : Sl enc k w A xs := h.sl hk rfl

theorem Sl.of_blk {α : Type} {enc : α → List Value} {k : Nat} {w : World} {g : Nat} {t : TypeId} {cs : Array Value} {xs : List α} (hk : ∀ x : α, (enc x).length = k) (hb : Blk w g t cs) (h : cs.toList = xs.flatMap enc) : Sl enc k w (some ⟨g, 0, none⟩) xs := by
  refine .inr ⟨_, rfl, hb.lt, fun i x hx j u hu => ?_⟩
  rw [add_off0, hb.cell, ← Array.getElem?_toList, h]
  exact flat_get hk xs i x hx j u hu
theorem keep_ok (L : LibC) (p : Pol) (A : Option Addr) (n c : Nat) (l : List Lk) (live next now : Int) (w : World) (hnl : l.length = n) (hl : Sl Lk.enc 6 w A l) (hlc : n ≤ c) (ht : Tabs w) (hs : ∀ x ∈ l, x.name.size ≤ 65536) (htm : ∀ x ∈ l, x.timed) (hr : p.right = true) (hk : treeOk l live next = true) :
    Calls Tryz.prog 12 #[.agg #[.int .i64 p.d, .int .i64 p.w, .int .i64 p.m, .int .i64 p.y], .agg #[.slice A n c, .int .i64 live, .int .i64 next, .int .u64 now]] w fun e w' =>
      (∃ g d, e = .returned (.slice (some ⟨g, 0, none⟩) (keepF p l live).length d) ∧ Own encI 3 1 w' w.heap.size (.slice (some ⟨g, 0, none⟩) (keepF p l live).length d) (keepF p l live)) ∧ Ext w w' := by
  subst hnl
  have h60 := (treeOk_len hk).2
  refine (keep_all L p A c l live next now w hl (by omega) hlc ht hs htm).mono ?_
  rintro e w' ⟨h, hx⟩
  rw [if_pos (by rw [hr, hk]; rfl)] at h
  obtain ⟨v, rfl, hv⟩ := h
  obtain ⟨g, d, rfl⟩ := Own.some hv (List.ne_nil_of_mem (one_keepF p l live))
  exact ⟨⟨g, d, rfl, hv⟩, hx⟩
theorem drops_ok (L : LibC) (p : Pol) (A : Option Addr) (n c : Nat) (l : List Lk) (live next now : Int) (w : World) (hnl : l.length = n) (hl : Sl Lk.enc 6 w A l) (hlc : n ≤ c) (ht : Tabs w) (hs : ∀ x ∈ l, x.name.size ≤ 65536) (htm : ∀ x ∈ l, x.timed) (hr : p.right = true) (hk : treeOk l live next = true) :
    Calls Tryz.prog 15 #[.agg #[.int .i64 p.d, .int .i64 p.w, .int .i64 p.m, .int .i64 p.y], .agg #[.slice A n c, .int .i64 live, .int .i64 next, .int .u64 now]] w fun e w' =>
      (∃ B d, e = .returned (.slice B (dropsF p l live).length d) ∧ Sl encI 1 w' B (dropsF p l live)) ∧ Ext w w' := by
  subst hnl
  have h60 := (treeOk_len hk).2
  refine (drops_any L p A c l live next now w hl (by omega) hlc ht hs htm).mono ?_
  rintro e w' ⟨h, hx⟩
  rw [if_pos (by rw [hr, hk]; rfl)] at h
  obtain ⟨v, rfl, hv⟩ := h
  obtain ⟨B, d, rfl, _⟩ := hv.slice
  exact ⟨⟨B, d, rfl, hv.sl encI_len rfl⟩, hx⟩
theorem shownL_ok : (∀ x ∈ shownL, x.name.size ≤ 65536) ∧ ∀ x ∈ shownL, x.timed := by
  have h : shownL = [rootL, nk 2 432000, nk 3 432001, nk 4 604800, nk 5 777600] := by kernel_rfl
  rw [h]
  constructor
  · simp [rootL, nk]
    decide
  · simp [rootL, nk, Lk.timed]

set_option maxRecDepth 100000 in
set_option maxHeartbeats 2000000 in
theorem shown_any {P : World → Prop} (L : LibAll P) (w : World) (hp : P w) :
    Calls Tryz.prog 8 #[] w fun e w' => e = .returned (.bool true) ∧ Ext w w' := by
  have HL := Lib.hid L
  have HPW := Lib.hid (fun w1 (h : Ext w w1) => L.s.hold _ _ hp h)
  clear L hp
  go_enter Tryz.func8, Tryz.ntmps8
  go_wp2_with fail
  refine (parse_any HL.out.s ⟨#[100, 50]⟩ _ (HPW.out _ (Ext.refl w)) (by decide)).mono ?_
  rintro e w1 ⟨hpo, hx1⟩
  rw [parse_d2] at hpo
  unfold ParseOut at hpo
  subst hpo
  have E1 := Lib.hid hx1
  clear hx1
  go_wp2_with fail
  have hb := (Blk.at_ (w1.alloc (.cells #[.int .i64 2, .int .i64 0, .int .i64 0, .int .i64 0] 23)) 62 #[.int .u64 432000, .bool false, .int .i64 0, .int .u64 432001, .bool false, .int .i64 0, .int .u64 604800, .bool false, .int .i64 0, .int .u64 777600, .bool false, .int .i64 0] (g := w1.heap.size + 1) (by simp))
  have hsl : Sl Nd.enc 3 _ _ shownN := Sl.of_blk Nd.enc_len hb rfl
  have hx0 := ((Ext.refl w1).alloc (.cells #[.int .i64 2, .int .i64 0, .int .i64 0, .int .i64 0] 23)).alloc (.cells #[.int .u64 432000, .bool false, .int .i64 0, .int .u64 432001, .bool false, .int .i64 0, .int .u64 604800, .bool false, .int .i64 0, .int .u64 777600, .bool false, .int .i64 0] 62)
  have b1 := (Blk.new w1 23 #[.int .i64 2, .int .i64 0, .int .i64 0, .int .i64 0]).alloc (.cells #[.int .u64 432000, .bool false, .int .i64 0, .int .u64 432001, .bool false, .int .i64 0, .int .u64 604800, .bool false, .int .i64 0, .int .u64 777600, .bool false, .int .i64 0] 62)
  have HX0 := Lib.hid (E1.out.trans hx0)
  have B1 := Lib.hid b1
  have HSL := Lib.hid hsl
  clear hb hsl hx0 b1
  refine (grown_any _ _ shownN 0 _ HSL.out (by decide)).mono ?_
  rintro e w2 ⟨⟨B, d, rfl, ho⟩, hx2⟩
  have ho' : Own Lk.enc 37 6 w2 _ (.slice B 5 d) shownL := ho
  have hd : 5 ≤ d := by
    obtain ⟨A', c', he, hle⟩ := ho'.slice
    injection he with _ _ hc
    subst hc
    exact hle
  have HO := Lib.hid ho'
  have E2 := Lib.hid (HX0.out.trans hx2)
  have B2 := Lib.hid (B1.out.ext hx2)
  clear ho ho' hx2 HX0 B1 HSL E1
  have hv : (Value.agg #[.slice B (min shownN.length 50 + 1) d, .int .i64 (1 + max 0 (min 0 ((min shownN.length 50 : Nat) : Int))), .int .i64 (((min shownN.length 50 : Nat) : Int) + 2), .int .u64 0]) = .agg #[.slice B 5 d, .int .i64 1, .int .i64 6, .int .u64 0] := rfl
  rw [hv]
  clear hv
  have hw1 : w1.heap.size < w2.heap.size := B2.out.lt
  have c0 : w2.cell? ⟨w1.heap.size, 0, none⟩ = some (.int .i64 2) := B2.out.cell 0
  have c1 : w2.cell? ⟨w1.heap.size, 1, none⟩ = some (.int .i64 0) := B2.out.cell 1
  have c2 : w2.cell? ⟨w1.heap.size, 2, none⟩ = some (.int .i64 0) := B2.out.cell 2
  have c3 : w2.cell? ⟨w1.heap.size, 3, none⟩ = some (.int .i64 0) := B2.out.cell 3
  go_wp2_with fail
  have hbt := Blk.new w2 29 #[.slice B 5 d, .int .i64 1, .int .i64 6, .int .u64 0]
  have hxt := (Ext.refl w2).alloc (.cells #[.slice B 5 d, .int .i64 1, .int .i64 6, .int .u64 0] 29)
  refine (keep_ok HL.out.c ⟨2, 0, 0, 0⟩ B 5 d shownL 1 6 0 _ rfl ((HO.out.sl' Lk.enc_len).ext hxt) hd (HL.out.tabs _ (HPW.out _ (E2.out.trans hxt))) shownL_ok.1 shownL_ok.2 right_shown tree_shown).mono ?_
  rintro e w3 ⟨⟨g, ck, rfl, hk⟩, hx3⟩
  rw [keep_shown] at hk
  rw [keep_shown]
  have E3 := Lib.hid (E2.out.trans (hxt.trans hx3))
  have T3 := Lib.hid (hbt.ext hx3)
  have B3 := Lib.hid (B2.out.ext (hxt.trans hx3))
  have S3 := Lib.hid ((HO.out.sl' Lk.enc_len).ext (hxt.trans hx3))
  have HK := Lib.hid (hk.sl' encI_len)
  clear hk hx3 hxt hbt HO E2 B2 c0 c1 c2 c3
  have hw2 : w2.heap.size < w3.heap.size := T3.out.lt
  have hw3 : w1.heap.size < w3.heap.size := B3.out.lt
  have c0 : w3.cell? ⟨w1.heap.size, 0, none⟩ = some (.int .i64 2) := B3.out.cell 0
  have c1 : w3.cell? ⟨w1.heap.size, 1, none⟩ = some (.int .i64 0) := B3.out.cell 1
  have c2 : w3.cell? ⟨w1.heap.size, 2, none⟩ = some (.int .i64 0) := B3.out.cell 2
  have c3 : w3.cell? ⟨w1.heap.size, 3, none⟩ = some (.int .i64 0) := B3.out.cell 3
  have d0 : w3.cell? ⟨w2.heap.size, 0, none⟩ = some (.slice B 5 d) := T3.out.cell 0
  have d1 : w3.cell? ⟨w2.heap.size, 1, none⟩ = some (.int .i64 1) := T3.out.cell 1
  have d2 : w3.cell? ⟨w2.heap.size, 2, none⟩ = some (.int .i64 6) := T3.out.cell 2
  have d3 : w3.cell? ⟨w2.heap.size, 3, none⟩ = some (.int .u64 0) := T3.out.cell 3
  go_wp2_with fail
  have hx4 := (Ext.refl w3).alloc (.cells #[.int .i64 1, .int .i64 4, .int .i64 5] 3)
  refine (sameInts_any (some ⟨g, 0, none⟩) ck [1, 4, 5] _ 3 [1, 4, 5] _ (HK.out.ext hx4) (Sl.of_blk encI_len (Blk.new w3 3 #[.int .i64 1, .int .i64 4, .int .i64 5]) rfl) (by simp) (by simp)).mono ?_
  rintro e w4 ⟨rfl, hx5⟩
  rw [decide_eq_true rfl]
  have hx6 := hx4.trans hx5
  have E4 := Lib.hid (E3.out.trans hx6)
  have T4 := Lib.hid (T3.out.ext hx6)
  have B4 := Lib.hid (B3.out.ext hx6)
  have S4 := Lib.hid (S3.out.ext hx6)
  clear hx4 hx5 hx6 E3 T3 B3 S3 HK c0 c1 c2 c3 d0 d1 d2 d3
  have hw4 : w2.heap.size < w4.heap.size := T4.out.lt
  have hw5 : w1.heap.size < w4.heap.size := B4.out.lt
  have c0 : w4.cell? ⟨w1.heap.size, 0, none⟩ = some (.int .i64 2) := B4.out.cell 0
  have c1 : w4.cell? ⟨w1.heap.size, 1, none⟩ = some (.int .i64 0) := B4.out.cell 1
  have c2 : w4.cell? ⟨w1.heap.size, 2, none⟩ = some (.int .i64 0) := B4.out.cell 2
  have c3 : w4.cell? ⟨w1.heap.size, 3, none⟩ = some (.int .i64 0) := B4.out.cell 3
  have d0 : w4.cell? ⟨w2.heap.size, 0, none⟩ = some (.slice B 5 d) := T4.out.cell 0
  have d1 : w4.cell? ⟨w2.heap.size, 1, none⟩ = some (.int .i64 1) := T4.out.cell 1
  have d2 : w4.cell? ⟨w2.heap.size, 2, none⟩ = some (.int .i64 6) := T4.out.cell 2
  have d3 : w4.cell? ⟨w2.heap.size, 3, none⟩ = some (.int .u64 0) := T4.out.cell 3
  go_wp2_with fail
  refine (drops_ok HL.out.c ⟨2, 0, 0, 0⟩ B 5 d shownL 1 6 0 _ rfl S4.out hd (HL.out.tabs _ (HPW.out _ E4.out)) shownL_ok.1 shownL_ok.2 right_shown tree_shown).mono ?_
  rintro e w5 ⟨⟨D, dk, rfl, hk⟩, hx5⟩
  rw [drops_shown] at hk
  rw [drops_shown]
  have E5 := Lib.hid (E4.out.trans hx5)
  have HK := Lib.hid hk
  clear hk hx5
  go_wp2_with fail
  have hx6 := (Ext.refl w5).alloc (.cells #[.int .i64 2, .int .i64 3] 3)
  refine (sameInts_any D dk [2, 3] _ 2 [2, 3] _ (HK.out.ext hx6) (Sl.of_blk encI_len (Blk.new w5 3 #[.int .i64 2, .int .i64 3]) rfl) (by simp) (by simp)).mono ?_
  rintro e w6 ⟨rfl, hx7⟩
  rw [decide_eq_true rfl]
  have E6 := Lib.hid (E5.out.trans (hx6.trans hx7))
  clear hx6 hx7
  go_wp2_with fail
  go_ret
  exact ⟨rfl, E6.out⟩
end Go.Proofs.YtdnmpkdnfockgaaGreatDoor
