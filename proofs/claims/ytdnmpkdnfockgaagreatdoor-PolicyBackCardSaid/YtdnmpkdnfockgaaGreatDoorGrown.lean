/-
  What grown of rootcellarlaw16 and rootcellarref14.New come to.
-/
import Derived.Test.YtdnmpkdnfockgaaGreatDoorCmp
import Derived.StillTailTactics
import Derived.Lib.MinMax
import Derived.Laws.BitsLemmas
import Derived.Deep.QuietTactic
import Derived.BigQuiet
import Derived.Deep.DeepCutAuto
import Derived.Deep.CutBlock
import Derived.Deep.RegionWith
import Derived.Deep.RegionHeld3
import Derived.Deep.RegionLaw
namespace Go.Proofs.YtdnmpkdnfockgaaGreatDoor
open Go.RowKit

structure Nd where
  time : Int
  pin : Bool
  on : Int
def Nd.enc (x : Nd) : List Value := [.int .u64 x.time, .bool x.pin, .int .i64 x.on]
theorem Nd.enc_len (x : Nd) : x.enc.length = 3 := rfl
def rootL : Lk := { id := 1, parent := 0, name := ⟨#[114, 111, 111, 116]⟩, time := 0, ghost := false, pin := false }
def nodeL (i : Nat) (x : Nd) : Lk := { id := i + 2, parent := 1 + max 0 (min x.on i), name := ⟨#[110]⟩, time := x.time, ghost := false, pin := x.pin }
def linksF (l : List Nd) (k : Nat) : List Lk := rootL :: (l.take k).mapIdx nodeL
theorem linksF_len (l : List Nd) {k : Nat} (hk : k ≤ l.length) : (linksF l k).length = k + 1 := by
  unfold linksF
  rw [List.length_cons, List.length_mapIdx, List.length_take]
  omega
theorem linksF_snoc (l : List Nd) {k : Nat} (hk : k < l.length) : linksF l (k + 1) = linksF l k ++ [nodeL k l[k]] := by
  unfold linksF
  rw [List.take_succ_eq_append_getElem hk, List.mapIdx_append, List.cons_append, List.length_take, Nat.min_eq_left (by omega)]
  simp

theorem Sl.at3 {w : World} {A : Option Addr} {l : List Nd} (h : Sl Nd.enc 3 w A l) {i : Nat} (hi : i < l.length) : ∃ ad, A = some ad ∧ ad.block < w.heap.size ∧ w.cell? (ad.add (i * 3)) = some (.int .u64 l[i].time) ∧
    w.cell? ⟨(ad.add (i * 3)).block, (ad.add (i * 3)).off + 1, none⟩ = some (.bool l[i].pin) ∧ w.cell? ⟨(ad.add (i * 3)).block, (ad.add (i * 3)).off + 2, none⟩ = some (.int .i64 l[i].on) := by
  obtain ⟨ad, e, hb, h⟩ := h.get hi
  refine ⟨ad, e, hb, h 0 _ rfl, ?_, ?_⟩
  all_goals rw [← add_pos _ _ _ (by omega)]; exact h _ _ rfl

theorem Own.ne_blk {α : Type} {enc : α → List Value} {e t : TypeId} {k g : Nat} {w : World} {base : Nat} {v : Value} {xs : List α} {cs : Array Value} (h : Own enc e k w base v xs) (hb : Blk w g t cs) (hne : t ≠ e) : v.ownBlock ≠ Option.some g := by
  intro he
  rcases h.2 with ⟨hv, _⟩ | ⟨g', cap, cur, hv, _, hh, _⟩
  · rw [hv] at he; simp [Value.ownBlock] at he
  · rw [hv] at he
    have : g' = g := by simpa [Value.ownBlock] using he
    subst this
    unfold Blk at hb
    rw [hb] at hh
    injection hh with hh
    injection hh with _ ht
    exact hne ht
theorem Own.far {α : Type} {enc : α → List Value} {e : TypeId} {k : Nat} {w : World} {base : Nat} {v : Value} {xs : List α} (h : Own enc e k w base v xs) {p : Addr} (hp : v.ownBlock ≠ Option.some p.block) (u : Value) : Own enc e k (w.setCell p u) base v xs := by
  refine ⟨h.1, ?_⟩
  rcases h.2 with h1 | ⟨g, cap, cur, hv, hb, hh, r⟩
  · exact .inl h1
  · refine .inr ⟨g, cap, cur, hv, hb, ?_, r⟩
    rw [← hh]
    refine Below.heap_setCell w p u g ?_
    intro e
    rw [hv, e] at hp
    simp [Value.ownBlock] at hp
theorem wrapI_small {x : Int} (h0 : -9223372036854775808 ≤ x) (h1 : x ≤ 9223372036854775807) : IntKind.i64.wrap x = x := by
  rw [IntKind.wrap_i64]
  omega
theorem new14_any (w : World) : Calls Tryz.prog 16 #[] w fun e w' => (∃ A c, e = .returned (.agg #[.slice A 1 c, .int .i64 1, .int .i64 2, .int .u64 0])) ∧ Ext w w' := by
  go_enter Tryz.func16, Tryz.ntmps16
  go_wp2_with fail
  refine bodyPost_ret (v := .agg #[.slice (some ⟨w.heap.size + 1, 0, none⟩) 1 1, .int .i64 1, .int .i64 2, .int .u64 0]) (by simp [results, Tryz.results16, go_sem]) rfl ⟨⟨_, _, rfl⟩, ?_⟩
  repeat (first | with_reducible exact Ext.refl w | with_reducible refine Ext.alloc ?_ _ | with_reducible refine Ext.setCell ?_ (by dsimp only; omega) _)

set_option maxRecDepth 100000 in
set_option maxHeartbeats 1000000 in
theorem grown_any (A : Option Addr) (c : Nat) (l : List Nd) (live : Int) (w : World) (hl : Sl Nd.enc 3 w A l) (hn : l.length ≤ 9223372036854775807) :
    Calls Tryz.prog 9 #[.slice A l.length c, .int .i64 live] w fun e w' =>
      (∃ B d, e = .returned (.agg #[.slice B (min l.length 50 + 1) d, .int .i64 (1 + max 0 (min live (min l.length 50 : Nat))), .int .i64 ((min l.length 50 : Nat) + 2), .int .u64 0]) ∧
        Own Lk.enc 37 6 w' w.heap.size (.slice B (min l.length 50 + 1) d) (linksF l (min l.length 50))) ∧ Ext w w' := by
  have HL := Lib.hid hl
  clear hl
  go_enter Tryz.func9, Tryz.ntmps9
  go_wp2_with fail
  go_loopw [6] (fun v6 wr => ∃ (k : Nat) (B : Option Addr) (d : Nat), k ≤ l.length ∧ k ≤ 50 ∧ v6 = .int .i64 k ∧ Hid (Blk wr w.heap.size 29 #[.slice none 0 0, .int .i64 0, .int .i64 0, .int .u64 0]) ∧
      Hid (Blk wr (w.heap.size + 1 + 1) 29 #[.slice B (k + 1) d, .int .i64 1, .int .i64 (k + 2), .int .u64 0]) ∧ Hid (Own Lk.enc 37 6 wr w.heap.size (.slice B (k + 1) d) (linksF l k)) ∧ Hid (Ext w wr)) (fun v6 _ => l.length - (intOf v6).toNat)
  case atStart =>
    refine ⟨0, some ⟨w.heap.size + 1, 0, none⟩, 1, Nat.zero_le _, by omega, rfl, ((Blk.new w _ _).alloc _).alloc _, Blk.at_ _ _ _ (by simp), ?_, (((Ext.refl w).alloc _).alloc _).alloc _⟩
    exact (Own.lit (w.alloc _) w.heap.size 37 6 _ [rootL] rfl Lk.enc_len (by simp) (by simp) (by simp)).alloc _
  case round =>
    obtain ⟨k, B, d, hk, hk50, rfl, HB4, HB5, HO, HE⟩ := hrel
    by_cases hlt : k < l.length
    · by_cases hlt5 : k < 50
      · obtain ⟨ad, hA, hba, _⟩ := Sl.at3 HL.out hlt
        subst hA
        obtain ⟨ad', had, hbb, x0, x1, x2⟩ := Sl.at3 (HL.out.ext HE.out) hlt
        injection had with had
        subst had
        have HS := Lib.hid (linksF_snoc l hlt)
        have hll := linksF_len l hk
        have hw2 := HB5.out.lt
        have y0 : wr.cell? ⟨w.heap.size + 1 + 1, 0, none⟩ = some (.slice B (k + 1) d) := HB5.out.cell 0
        have f0 := HB5.out.frozen 0
        generalize l[k] = x at *
        obtain ⟨i0, hi0, hz0, hz1, hz2⟩ := info_parts info_link
        have ho := HO.out
        unfold Own at ho
        rw [hll] at ho
        have hfar := Own.ne_blk (v := .slice B (k + 1) d) HO.out HB5.out (by decide)
        have hfar4 := Own.ne_blk (v := .slice B (k + 1) d) HO.out HB4.out (by decide)
        have hfa : (Value.slice B (k + 1) d).ownBlock ≠ some (ad.add (k * 3)).block := by rw [add_block]; exact fun h => absurd (HO.out.base_le _ h) (by omega)
        have hbb2 : (ad.add (k * 3)).block < wr.heap.size := by rw [add_block]; exact hbb
        generalize linksF l k = lk at *
        have hw3 : w.heap.size ≤ wr.heap.size := by omega
        go_upto_region 5 with (fail)
        have hne1 : ¬ (w.heap.size + 1 + 1 = (ad.add (k * 3)).block) := by rw [add_block]; omega
        refine wp_region_held_drew (S := fun w' => w'.cell? (ad.add (k * 3)) = some (.int .u64 x.time) ∧
            w'.cell? ⟨(ad.add (k * 3)).block, (ad.add (k * 3)).off + 1, none⟩ = some (.bool x.pin) ∧ w'.cell? ⟨(ad.add (k * 3)).block, (ad.add (k * 3)).off + 2, none⟩ = some (.int .i64 x.on)) (by kernel_rfl) ⟨x0, x1, x2⟩ (fun hHeld => ?_)
        refine wpAnyH_take (i := 0) (v := ?_) rfl (by kernel_rfl) (by kernel_rfl) (by kernel_rfl) (fun _ _ _ h => h) (Or.inl ⟨by rfl, ?_⟩) hHeld ?_
        rotate_left
        · intro w0 hSw; obtain ⟨hs0, hs1, hs2⟩ := hSw; go_simp; with_reducible rfl
        try simp only [Act.put, List.setIfInBounds_toArray]
        refine wpAnyH_take (i := 2) (v := ?_) rfl (by kernel_rfl) (by kernel_rfl) (by kernel_rfl) (fun _ _ _ h => h) (Or.inl ⟨by rfl, ?_⟩) hHeld ?_
        rotate_left
        · intro w0 hSw; obtain ⟨hs0, hs1, hs2⟩ := hSw; go_simp; with_reducible rfl
        try simp only [Act.put]
        refine wpAnyH_take (i := 3) (v := ?_) rfl (by kernel_rfl) (by kernel_rfl) (by kernel_rfl) (fun _ _ _ h => h) (Or.inl ⟨by rfl, ?_⟩) hHeld ?_
        rotate_left
        · intro w0 hSw; obtain ⟨hs0, hs1, hs2⟩ := hSw; go_simp; with_reducible rfl
        try simp only [Act.put]
        refine wpAnyH_take (i := 4) (v := ?_) rfl (by kernel_rfl) (by kernel_rfl) (by kernel_rfl) (fun _ _ _ h => h) (Or.inl ⟨by rfl, ?_⟩) hHeld ?_
        rotate_left
        · intro w0 hSw; obtain ⟨hs0, hs1, hs2⟩ := hSw; go_simp; with_reducible rfl
        try simp only [Act.put]
        refine wpAnyH_take (i := 5) (v := ?_) rfl (by kernel_rfl) (by kernel_rfl) (by kernel_rfl) (fun _ _ _ h => h) (Or.inl ⟨by rfl, ?_⟩) hHeld ?_
        rotate_left
        · intro w0 hSw; obtain ⟨hs0, hs1, hs2⟩ := hSw; go_simp; with_reducible rfl
        try simp only [Act.put]
        refine wpAnyH_take (i := 6) (v := ?_) rfl (by kernel_rfl) (by kernel_rfl) (by kernel_rfl) (fun _ _ _ h => h) (Or.inl ⟨by rfl, ?_⟩) hHeld ?_
        rotate_left
        · intro w0 hSw; obtain ⟨hs0, hs1, hs2⟩ := hSw; go_simp; with_reducible rfl
        try simp only [Act.put]
        refine wpAnyH_take (i := 7) (v := ?_) rfl (by kernel_rfl) (by kernel_rfl) (by kernel_rfl) (fun _ _ _ h => h) (Or.inl ⟨by rfl, ?_⟩) hHeld ?_
        rotate_left
        · intro w0 hSw; obtain ⟨hs0, hs1, hs2⟩ := hSw; go_simp; with_reducible rfl
        try simp only [Act.put]
        refine wpAnyH_take (i := 8) (v := ?_) rfl (by kernel_rfl) (by kernel_rfl) (by kernel_rfl) (fun _ _ _ h => h) (Or.inl ⟨by rfl, ?_⟩) hHeld ?_
        rotate_left
        · intro w0 hSw; obtain ⟨hs0, hs1, hs2⟩ := hSw; go_simp; with_reducible rfl
        try simp only [Act.put]
        refine wpAnyH_take (i := 9) (v := ?_) rfl (by kernel_rfl) (by kernel_rfl) (by kernel_rfl) (fun _ _ _ h => h) (Or.inl ⟨by rfl, ?_⟩) hHeld ?_
        rotate_left
        · intro w0 hSw; obtain ⟨hs0, hs1, hs2⟩ := hSw; go_simp; with_reducible rfl
        try simp only [Act.put]
        refine wpAnyH_take (i := 10) (v := ?_) rfl (by kernel_rfl) (by kernel_rfl) (by kernel_rfl) (fun _ _ _ h => h) (Or.inl ⟨by rfl, ?_⟩) hHeld ?_
        rotate_left
        · intro w0 hSw; obtain ⟨hs0, hs1, hs2⟩ := hSw; go_simp; with_reducible rfl
        try simp only [Act.put]
        refine wpAnyH_take (i := 11) (v := ?_) rfl (by kernel_rfl) (by kernel_rfl) (by kernel_rfl) (fun _ _ _ h => h) (Or.inl ⟨by rfl, ?_⟩) hHeld ?_
        rotate_left
        · intro w0 hSw; obtain ⟨hs0, hs1, hs2⟩ := hSw; go_simp; with_reducible rfl
        try simp only [Act.put]
        refine wpAnyH_take (i := 12) (v := ?_) rfl (by kernel_rfl) (by kernel_rfl) (by kernel_rfl) (fun _ _ _ h => h) (Or.inl ⟨by rfl, ?_⟩) hHeld ?_
        rotate_left
        · intro w0 hSw; obtain ⟨hs0, hs1, hs2⟩ := hSw; go_simp; with_reducible rfl
        try simp only [Act.put]
        refine wpAnyH_take (i := 13) (v := ?_) rfl (by kernel_rfl) (by kernel_rfl) (by kernel_rfl) (fun _ _ _ h => h) (Or.inl ⟨by rfl, ?_⟩) hHeld ?_
        rotate_left
        · intro w0 hSw; obtain ⟨hs0, hs1, hs2⟩ := hSw; go_simp; with_reducible rfl
        try simp only [Act.put]
        refine wpAnyH_take (i := 14) (v := ?_) rfl (by kernel_rfl) (by kernel_rfl) (by kernel_rfl) (fun _ _ _ h => h) (Or.inl ⟨by rfl, ?_⟩) hHeld ?_
        rotate_left
        · intro w0 hSw; obtain ⟨hs0, hs1, hs2⟩ := hSw; go_simp; with_reducible rfl
        try simp only [Act.put]
        refine wpAnyH_take (i := 15) (v := ?_) rfl (by kernel_rfl) (by kernel_rfl) (by kernel_rfl) (fun _ _ _ h => h) (Or.inl ⟨by rfl, ?_⟩) hHeld ?_
        rotate_left
        · intro w0 hSw; obtain ⟨hs0, hs1, hs2⟩ := hSw; go_simp; with_reducible rfl
        try simp only [Act.put]
        refine wpAnyH_take (i := 16) (v := ?_) rfl (by kernel_rfl) (by kernel_rfl) (by kernel_rfl) (fun _ _ _ h => h) (Or.inl ⟨by rfl, ?_⟩) hHeld ?_
        rotate_left
        · intro w0 hSw; obtain ⟨hs0, hs1, hs2⟩ := hSw; go_simp; with_reducible rfl
        try simp only [Act.put]
        refine wpAnyH_take (i := 17) (v := ?_) rfl (by kernel_rfl) (by kernel_rfl) (by kernel_rfl) (fun _ _ _ h => h) (Or.inl ⟨by rfl, ?_⟩) hHeld ?_
        rotate_left
        · intro w0 hSw; obtain ⟨hs0, hs1, hs2⟩ := hSw; go_simp; with_reducible rfl
        try simp only [Act.put]
        refine wpAnyH_take (i := 18) (v := ?_) rfl (by kernel_rfl) (by kernel_rfl) (by kernel_rfl) (fun _ _ _ h => h) (Or.inl ⟨by rfl, ?_⟩) hHeld ?_
        rotate_left
        · intro w0 hSw; obtain ⟨hs0, hs1, hs2⟩ := hSw; go_simp; with_reducible rfl
        try simp only [Act.put]
        refine wpAnyH_take (i := 19) (v := ?_) rfl (by kernel_rfl) (by kernel_rfl) (by kernel_rfl) (fun _ _ _ h => h) (Or.inl ⟨by rfl, ?_⟩) hHeld ?_
        rotate_left
        · intro w0 hSw; obtain ⟨hs0, hs1, hs2⟩ := hSw; go_simp; with_reducible rfl
        try simp only [Act.put]
        refine wpAnyH_take (i := 20) (v := ?_) rfl (by kernel_rfl) (by kernel_rfl) (by kernel_rfl) (fun _ _ _ h => h) (Or.inl ⟨by rfl, ?_⟩) hHeld ?_
        rotate_left
        · intro w0 hSw; obtain ⟨hs0, hs1, hs2⟩ := hSw; go_simp; with_reducible rfl
        try simp only [Act.put]
        refine wpAnyH_take (i := 21) (v := ?_) rfl (by kernel_rfl) (by kernel_rfl) (by kernel_rfl) (fun _ _ _ h => h) (Or.inl ⟨by rfl, ?_⟩) hHeld ?_
        rotate_left
        · intro w0 hSw; obtain ⟨hs0, hs1, hs2⟩ := hSw; go_simp; with_reducible rfl
        try simp only [Act.put]
        refine wpAnyH_take (i := 22) (v := ?_) rfl (by kernel_rfl) (by kernel_rfl) (by kernel_rfl) (fun _ _ _ h => h) (Or.inl ⟨by rfl, ?_⟩) hHeld ?_
        rotate_left
        · intro w0 hSw; obtain ⟨hs0, hs1, hs2⟩ := hSw; go_simp; with_reducible rfl
        try simp only [Act.put]
        refine wpAnyH_take (i := 23) (v := ?_) rfl (by kernel_rfl) (by kernel_rfl) (by kernel_rfl) (fun _ _ _ h => h) (Or.inl ⟨by rfl, ?_⟩) hHeld ?_
        rotate_left
        · intro w0 hSw; obtain ⟨hs0, hs1, hs2⟩ := hSw; go_simp; with_reducible rfl
        try simp only [Act.put]
        refine wpAnyH_ready (rs := [1, 24]) (by kernel_rfl) (by simp) ?_
        refine AllReadyH.cons rfl (fun K hK => ?_) (AllReadyH.cons rfl (fun K hK => ?_) AllReadyH.nil)
        · go_simp
          refine hK.out _ _ hHeld (fun hHeld => ?_)
          clear hK K
          try simp only [Act.put]
          refine wpAnyH_ready (rs := [24]) (by kernel_rfl) (by simp) ?_
          refine AllReadyH.cons rfl (fun K hK => ?_) AllReadyH.nil
          go_simp
          refine hK.out _ _ (by go_keep) (fun hHeld => ?_)
          clear hK K
          try simp only [Act.put]
          refine wpAnyH_ready (rs := [25]) (by kernel_rfl) (by simp) ?_
          refine AllReadyH.cons rfl (fun K hK => ?_) AllReadyH.nil
          refine step_append_lies _ (by rfl) _ _ _ (by rfl) w.heap.size 37 i0 _ 6 48 Tryz.underlying26 hi0 hz0 hz1 hz2 rfl (by omega) (.slice B (k + 1) d) (k + 1) _ (by rfl) ((ho.alloc _).drew)
                      ⟨wr.heap.size, 0, none⟩ 1 1 _ (by rfl) (by rfl) (World.news_of_block (heap_alloc_new wr _)) (by simp [Value.oneCell'])
                      (by omega) (by unfold maxLen; omega) (by omega) (by simp; omega) (wr.heap.size + 1) (by simp) ?_
          intro gg cap w1 hown1 hgrow hat hlt1
          have hb5 := Blk.above ((HB5.out.alloc _).drew) hfar hgrow
          have hb4 := Blk.above ((HB4.out.alloc _).drew) hfar4 hgrow
          have hb5l := hb5.lt
          have q2 : w1.cell? ⟨w.heap.size + 1 + 1, 2, none⟩ = some (.int .i64 (k + 2)) := hb5.cell 2
          have q2f := hb5.frozen 2
          have hb5f := hb5.frozen 0
          have hb5c : w1.cell? ⟨w.heap.size + 1 + 1, 0, none⟩ = some (.slice B (k + 1) d) := hb5.cell 0
          have hx0 : w1.cell? (ad.add (k * 3)) = some (.int .u64 x.time) := (hgrow.cell_far _ (by show _ < (wr.alloc _).drew.heap.size; simp; omega) (Ne.symm hfa)).trans (((Ext.refl wr).alloc _).cellv x0)
          have hx1 : w1.cell? ⟨(ad.add (k * 3)).block, (ad.add (k * 3)).off + 1, none⟩ = some (.bool x.pin) := (hgrow.cell_far ⟨(ad.add (k * 3)).block, (ad.add (k * 3)).off + 1, none⟩ (by show _ < (wr.alloc _).drew.heap.size; simp; omega) (Ne.symm hfa)).trans (((Ext.refl wr).alloc _).cellv x1)
          have hx2 : w1.cell? ⟨(ad.add (k * 3)).block, (ad.add (k * 3)).off + 2, none⟩ = some (.int .i64 x.on) := (hgrow.cell_far ⟨(ad.add (k * 3)).block, (ad.add (k * 3)).off + 2, none⟩ (by show _ < (wr.alloc _).drew.heap.size; simp; omega) (Ne.symm hfa)).trans (((Ext.refl wr).alloc _).cellv x2)
          have he1 := Ext.grown (((HE.out.alloc _).drew)) hgrow (fun g hg => HO.out.base_le g hg)
          refine hK.out _ _ ⟨hx0, hx1, hx2⟩ (fun hHeld => ?_)
          clear hK K
          try simp only [Act.put]
          refine wpAnyH_ready (rs := [26]) (by kernel_rfl) (by simp) ?_
          refine AllReadyH.cons rfl (fun K hK => ?_) AllReadyH.nil
          go_simp
          refine hK.out _ _ hHeld (fun hHeld => ?_)
          clear hK K
          try simp only [Act.put]
          refine wpAnyH_ready (rs := [27]) (by kernel_rfl) (by simp) ?_
          refine AllReadyH.cons rfl (fun K hK => ?_) AllReadyH.nil
          go_simp
          refine hK.out _ _ (by go_keep) (fun hHeld => ?_)
          clear hK K
          try simp only [Act.put]
          refine wpAnyH_done (by kernel_rfl) ?_ _
          go_wp2_with fail
          go_roundw
          case measure => simp [intOf]; omega
          case rel =>
            have hown2 : Own Lk.enc 37 6 w1 w.heap.size (.slice (some ⟨gg, 0, none⟩) (k + 1 + 1) cap) (lk ++ [nodeL k x]) := by
              unfold Own
              rw [List.length_append, hll, List.flatMap_append]
              rw [wrapI_small (by omega) (by omega), wrapI_small (by omega) (by omega)] at hown1
              exact hown1
            refine ⟨k + 1, some ⟨gg, 0, none⟩, cap, by omega, by omega, by go_num, ((hb4.far (by simp; omega) _).far (by simp; omega) _), ?_, ?_, (he1.setCell (by simp; omega) _).setCell (by simp; omega) _⟩
            · have := (hb5.set_ 0 (.slice (some ⟨gg, 0, none⟩) (k + 1 + 1) cap)).set_ 2 (.int .i64 (k + 3))
              refine Lib.hid ?_
              simpa [Int.add_assoc] using this
            · rw [HS.out]
              refine Lib.hid ?_
              have hne := hown2.ne_blk hb5 (by decide)
              exact (hown2.far hne _).far hne _
        · go_simp
          refine hK.out _ _ (by go_keep) (fun hHeld => ?_)
          clear hK K
          try simp only [Act.put]
          refine wpAnyH_ready (rs := [1]) (by kernel_rfl) (by simp) ?_
          refine AllReadyH.cons rfl (fun K hK => ?_) AllReadyH.nil
          go_simp
          refine hK.out _ _ hHeld (fun hHeld => ?_)
          clear hK K
          try simp only [Act.put]
          refine wpAnyH_ready (rs := [25]) (by kernel_rfl) (by simp) ?_
          refine AllReadyH.cons rfl (fun K hK => ?_) AllReadyH.nil
          refine step_append_lies _ (by rfl) _ _ _ (by rfl) w.heap.size 37 i0 _ 6 48 Tryz.underlying26 hi0 hz0 hz1 hz2 rfl (by omega) (.slice B (k + 1) d) (k + 1) _ (by rfl) ((ho.alloc _).drew)
                      ⟨wr.heap.size, 0, none⟩ 1 1 _ (by rfl) (by rfl) (World.news_of_block (heap_alloc_new wr _)) (by simp [Value.oneCell'])
                      (by omega) (by unfold maxLen; omega) (by omega) (by simp; omega) (wr.heap.size + 1) (by simp) ?_
          intro gg cap w1 hown1 hgrow hat hlt1
          have hb5 := Blk.above ((HB5.out.alloc _).drew) hfar hgrow
          have hb4 := Blk.above ((HB4.out.alloc _).drew) hfar4 hgrow
          have hb5l := hb5.lt
          have q2 : w1.cell? ⟨w.heap.size + 1 + 1, 2, none⟩ = some (.int .i64 (k + 2)) := hb5.cell 2
          have q2f := hb5.frozen 2
          have hb5f := hb5.frozen 0
          have hb5c : w1.cell? ⟨w.heap.size + 1 + 1, 0, none⟩ = some (.slice B (k + 1) d) := hb5.cell 0
          have hx0 : w1.cell? (ad.add (k * 3)) = some (.int .u64 x.time) := (hgrow.cell_far _ (by show _ < (wr.alloc _).drew.heap.size; simp; omega) (Ne.symm hfa)).trans (((Ext.refl wr).alloc _).cellv x0)
          have hx1 : w1.cell? ⟨(ad.add (k * 3)).block, (ad.add (k * 3)).off + 1, none⟩ = some (.bool x.pin) := (hgrow.cell_far ⟨(ad.add (k * 3)).block, (ad.add (k * 3)).off + 1, none⟩ (by show _ < (wr.alloc _).drew.heap.size; simp; omega) (Ne.symm hfa)).trans (((Ext.refl wr).alloc _).cellv x1)
          have hx2 : w1.cell? ⟨(ad.add (k * 3)).block, (ad.add (k * 3)).off + 2, none⟩ = some (.int .i64 x.on) := (hgrow.cell_far ⟨(ad.add (k * 3)).block, (ad.add (k * 3)).off + 2, none⟩ (by show _ < (wr.alloc _).drew.heap.size; simp; omega) (Ne.symm hfa)).trans (((Ext.refl wr).alloc _).cellv x2)
          have he1 := Ext.grown (((HE.out.alloc _).drew)) hgrow (fun g hg => HO.out.base_le g hg)
          refine hK.out _ _ ⟨hx0, hx1, hx2⟩ (fun hHeld => ?_)
          clear hK K
          try simp only [Act.put]
          refine wpAnyH_ready (rs := [26]) (by kernel_rfl) (by simp) ?_
          refine AllReadyH.cons rfl (fun K hK => ?_) AllReadyH.nil
          go_simp
          refine hK.out _ _ hHeld (fun hHeld => ?_)
          clear hK K
          try simp only [Act.put]
          refine wpAnyH_ready (rs := [27]) (by kernel_rfl) (by simp) ?_
          refine AllReadyH.cons rfl (fun K hK => ?_) AllReadyH.nil
          go_simp
          refine hK.out _ _ (by go_keep) (fun hHeld => ?_)
          clear hK K
          try simp only [Act.put]
          refine wpAnyH_done (by kernel_rfl) ?_ _
          go_wp2_with fail
          go_roundw
          case measure => simp [intOf]; omega
          case rel =>
            have hown2 : Own Lk.enc 37 6 w1 w.heap.size (.slice (some ⟨gg, 0, none⟩) (k + 1 + 1) cap) (lk ++ [nodeL k x]) := by
              unfold Own
              rw [List.length_append, hll, List.flatMap_append]
              rw [wrapI_small (by omega) (by omega), wrapI_small (by omega) (by omega)] at hown1
              exact hown1
            refine ⟨k + 1, some ⟨gg, 0, none⟩, cap, by omega, by omega, by go_num, ((hb4.far (by simp; omega) _).far (by simp; omega) _), ?_, ?_, (he1.setCell (by simp; omega) _).setCell (by simp; omega) _⟩
            · have := (hb5.set_ 0 (.slice (some ⟨gg, 0, none⟩) (k + 1 + 1) cap)).set_ 2 (.int .i64 (k + 3))
              refine Lib.hid ?_
              simpa [Int.add_assoc] using this
            · rw [HS.out]
              refine Lib.hid ?_
              have hne := hown2.ne_blk hb5 (by decide)
              exact (hown2.far hne _).far hne _
      · have hmin : min l.length 50 = k := by omega
        have h50 : ¬ (k : Int) < 50 := by omega
        have hw2 := HB5.out.lt
        have y0 : wr.cell? ⟨w.heap.size + 1 + 1, 0, none⟩ = some (.slice B (k + 1) d) := HB5.out.cell 0
        have y1 : wr.cell? ⟨w.heap.size + 1 + 1, 1, none⟩ = some (.int .i64 1) := HB5.out.cell 1
        have y2 : wr.cell? ⟨w.heap.size + 1 + 1, 2, none⟩ = some (.int .i64 (k + 2)) := HB5.out.cell 2
        have y3 : wr.cell? ⟨w.heap.size + 1 + 1, 3, none⟩ = some (.int .u64 0) := HB5.out.cell 3
        have f1 := HB5.out.frozen 1
        have z0 : wr.cell? ⟨w.heap.size, 0, none⟩ = some (.slice none 0 0) := HB4.out.cell 0
        have z1 : wr.cell? ⟨w.heap.size, 1, none⟩ = some (.int .i64 0) := HB4.out.cell 1
        have z2 : wr.cell? ⟨w.heap.size, 2, none⟩ = some (.int .i64 0) := HB4.out.cell 2
        have z3 : wr.cell? ⟨w.heap.size, 3, none⟩ = some (.int .u64 0) := HB4.out.cell 3
        have g0 := HB4.out.frozen 0
        have g1 := HB4.out.frozen 1
        have g2 := HB4.out.frozen 2
        have g3 := HB4.out.frozen 3
        go_wp2_with fail
        have hlive : IntKind.i64.wrap (1 + max 0 (min live (k : Int))) = 1 + max 0 (min live (k : Int)) := wrapI_small (by omega) (by omega)
        have hne5 := HO.out.ne_blk HB5.out (by decide)
        have hne4 := HO.out.ne_blk HB4.out (by decide)
        have hO := HO.out
        refine bodyPost_ret (v := .agg #[.slice B (k + 1) d, .int .i64 (1 + max 0 (min live (k : Int))), .int .i64 (k + 2), .int .u64 0]) (by simp [results, Tryz.results9, go_sem, *]) rfl ⟨⟨B, d, rfl, ?_⟩, ?_⟩
        · repeat (first | with_reducible exact hO | with_reducible refine Own.far ?_ (by first | exact hne5 | exact hne4) _)
        · repeat (first | with_reducible exact HE.out | with_reducible refine Ext.setCell ?_ (by dsimp only; omega) _)
    · have hmin : min l.length 50 = k := by omega
      have hll : ¬ (k : Int) < l.length := by omega
      have hw2 := HB5.out.lt
      have y0 : wr.cell? ⟨w.heap.size + 1 + 1, 0, none⟩ = some (.slice B (k + 1) d) := HB5.out.cell 0
      have y1 : wr.cell? ⟨w.heap.size + 1 + 1, 1, none⟩ = some (.int .i64 1) := HB5.out.cell 1
      have y2 : wr.cell? ⟨w.heap.size + 1 + 1, 2, none⟩ = some (.int .i64 (k + 2)) := HB5.out.cell 2
      have y3 : wr.cell? ⟨w.heap.size + 1 + 1, 3, none⟩ = some (.int .u64 0) := HB5.out.cell 3
      have f1 := HB5.out.frozen 1
      have z0 : wr.cell? ⟨w.heap.size, 0, none⟩ = some (.slice none 0 0) := HB4.out.cell 0
      have z1 : wr.cell? ⟨w.heap.size, 1, none⟩ = some (.int .i64 0) := HB4.out.cell 1
      have z2 : wr.cell? ⟨w.heap.size, 2, none⟩ = some (.int .i64 0) := HB4.out.cell 2
      have z3 : wr.cell? ⟨w.heap.size, 3, none⟩ = some (.int .u64 0) := HB4.out.cell 3
      have g0 := HB4.out.frozen 0
      have g1 := HB4.out.frozen 1
      have g2 := HB4.out.frozen 2
      have g3 := HB4.out.frozen 3
      go_wp2_with fail
      have hlive : IntKind.i64.wrap (1 + max 0 (min live (k : Int))) = 1 + max 0 (min live (k : Int)) := wrapI_small (by omega) (by omega)
      have hne5 := HO.out.ne_blk HB5.out (by decide)
      have hne4 := HO.out.ne_blk HB4.out (by decide)
      have hO := HO.out
      refine bodyPost_ret (v := .agg #[.slice B (k + 1) d, .int .i64 (1 + max 0 (min live (k : Int))), .int .i64 (k + 2), .int .u64 0]) (by simp [results, Tryz.results9, go_sem, *]) rfl ⟨⟨B, d, rfl, ?_⟩, ?_⟩
      · repeat (first | with_reducible exact hO | with_reducible refine Own.far ?_ (by first | exact hne5 | exact hne4) _)
      · repeat (first | with_reducible exact HE.out | with_reducible refine Ext.setCell ?_ (by dsimp only; omega) _)
end Go.Proofs.YtdnmpkdnfockgaaGreatDoor
