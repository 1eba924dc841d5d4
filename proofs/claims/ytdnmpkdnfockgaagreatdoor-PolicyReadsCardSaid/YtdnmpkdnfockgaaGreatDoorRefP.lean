/-
  rootcellarref16.Parse.
-/
import Derived.Test.YtdnmpkdnfockgaaGreatDoorRefW
import Derived.Lib.MinMax
import Derived.Deep.RegionHeld3
import Derived.Deep.CutRange
namespace Go.Proofs.YtdnmpkdnfockgaaGreatDoor
open Go.RowKit

theorem put_cells (q : Pol) (t : Nat) (n : Int) (ht : t < 4) : (#[.int .i64 q.d, .int .i64 q.w, .int .i64 q.m, .int .i64 q.y] : Array Value).setIfInBounds t (.int .i64 n) = #[.int .i64 (q.put t n).d, .int .i64 (q.put t n).w, .int .i64 (q.put t n).m, .int .i64 (q.put t n).y] := by
  have : t = 0 ∨ t = 1 ∨ t = 2 ∨ t = 3 := by omega
  rcases this with rfl | rfl | rfl | rfl <;> rfl
theorem nth_cell (q : Pol) (t : Nat) (ht : t < 4) : (#[.int .i64 q.d, .int .i64 q.w, .int .i64 q.m, .int .i64 q.y] : Array Value)[t]? = some (.int .i64 (q.nth t)) := by
  have : t = 0 ∨ t = 1 ∨ t = 2 ∨ t = 3 := by omega
  rcases this with rfl | rfl | rfl | rfl <;> rfl
theorem tierI_of (c : Int) : tierI c < 0 ∨ ∃ t : Nat, t < 4 ∧ tierI c = t := by
  unfold tierI
  repeat' split
  · exact .inr ⟨0, by omega, rfl⟩
  · exact .inr ⟨1, by omega, rfl⟩
  · exact .inr ⟨2, by omega, rfl⟩
  · exact .inr ⟨3, by omega, rfl⟩
  · exact .inl (by decide)
theorem foldR_none (l : List (List UInt8)) : l.foldl stepR none = none := by
  induction l with
  | nil => rfl
  | cons x l ih => exact ih
theorem words_full (l : List UInt8) : ∀ x ∈ wordsL l, x ≠ [] := by
  intro x hx
  have := (List.mem_filter.1 hx).2
  intro e
  subst e
  cases this
theorem splitL_lenx : ∀ (l : List UInt8), ∀ x ∈ splitL l, x.length ≤ l.length
  | [], x, hx => by
    rw [splitL, List.mem_singleton] at hx
    subst hx
    exact Nat.le_refl _
  | b :: l, x, hx => by
    obtain ⟨y, ys, e⟩ := splitL_ne l
    have ih := splitL_lenx l
    by_cases h : b = 32
    · subst h
      rw [splitL_blank] at hx
      rcases List.mem_cons.1 hx with h | h
      · subst h; simp
      · have := ih x h; simp; omega
    · rw [splitL_byte h e] at hx
      rcases List.mem_cons.1 hx with h | h
      · subst h
        have := ih y (by rw [e]; exact List.mem_cons_self)
        simp; omega
      · have := ih x (by rw [e]; exact List.mem_cons_of_mem _ h)
        simp; omega
theorem dataL_get (ws : List ByteArray) {k : Nat} (hk : k < ws.length) : (dataL ws).take (k + 1) = (dataL ws).take k ++ [ws[k].data.toList] := by
  unfold dataL
  rw [List.take_succ_eq_append_getElem (by rw [List.length_map]; exact hk), List.getElem_map]
theorem dataL_drop (ws : List ByteArray) {k : Nat} (hk : k < ws.length) : (dataL ws).drop k = ws[k].data.toList :: (dataL ws).drop (k + 1) := by
  unfold dataL
  rw [List.drop_eq_getElem_cons (by rw [List.length_map]; exact hk), List.getElem_map]

/-- One word of the document's fold. -/
theorem stepR_word (q : Pol) (x : ByteArray) (hx : 0 < x.size) : stepR (some q) x.data.toList = if tierI (x[0].toNat : Int) < 0 ∨ numR (x.extract 1 x.size).data.toList < 0 ∨ 0 ≤ q.nth (tierI (x[0].toNat : Int)).toNat then none else some (q.put (tierI (x[0].toNat : Int)) (numR (x.extract 1 x.size).data.toList)) := by
  have h := getE x hx
  rw [List.drop_zero] at h
  have h2 : (x.extract 1 x.size).data.toList = x.data.toList.drop 1 := by
    rw [Lib.extract_to_end]
  rw [h2, h, stepR, tierI_b]
  rfl

theorem cell_far {w : World} {p a : Addr} {u v : Value} (h : p.block ≠ a.block) (hc : w.cell? a = some v) : (w.setCell p u).cell? a = some v := by
  rw [World.cell?_setCell_other _ _ _ _ (fun e => h (by rw [e]))]
  exact hc
theorem cell_far4 {w : World} {g b o : Nat} {u0 u1 u2 u3 v : Value} (h : g ≠ b) (hc : w.cell? ⟨b, o, none⟩ = some v) : ((((w.setCell ⟨g, 0, none⟩ u0).setCell ⟨g, 1, none⟩ u1).setCell ⟨g, 2, none⟩ u2).setCell ⟨g, 3, none⟩ u3).drew.cell? ⟨b, o, none⟩ = some v := by
  rw [World.cell?_drew]
  exact cell_far h (cell_far h (cell_far h (cell_far h hc)))

set_option maxRecDepth 100000 in
set_option maxHeartbeats 2000000 in
theorem refparse_any (s : ByteArray) (w : World) (hs : s.size ≤ 8000) :
    Calls Tryz.prog 22 #[.string s] w fun e w' => ParseOut (parseR s.data.toList) e ∧ Ext w w' := by
  go_enter Tryz.func22, Tryz.ntmps22
  go_wp2_with fail
  have E0 := Lib.hid ((Ext.refl w).alloc (.cells #[.int .i64 0, .int .i64 0, .int .i64 0, .int .i64 0] 47))
  have B2 := Lib.hid (Blk.new w 47 #[.int .i64 0, .int .i64 0, .int .i64 0, .int .i64 0])
  refine (words_any s _ hs).mono ?_
  rintro e w1 ⟨⟨v, ws, rfl, hown, hdl, hwl⟩, hx1⟩
  obtain ⟨A4, c4, rfl, _⟩ := hown.slice
  have E1 := Lib.hid (E0.out.trans hx1)
  have C2 := Lib.hid (B2.out.ext hx1)
  have HS := Lib.hid (hown.sl encS_len rfl)
  have HX : Hid (∀ x ∈ ws, 0 < x.size ∧ x.size ≤ s.size) := Lib.hid (by
    intro x hx
    have hm : x.data.toList ∈ wordsL s.data.toList := by
      rw [← hdl]
      exact List.mem_map.2 ⟨x, hx, rfl⟩
    have h1 := words_full _ _ hm
    have h2 := splitL_lenx _ _ (List.mem_filter.1 hm).1
    rw [← Lib.size_eq, ← Lib.size_eq] at h2
    refine ⟨?_, h2⟩
    rcases Nat.eq_zero_or_pos x.size with h | h
    · exact absurd (ba_size0 h) h1
    · exact h)
  have HPF : Hid (parseR s.data.toList = ((dataL ws).foldl stepR (some lowP)).map Pol.pos) := Lib.hid (by rw [hdl]; rfl)
  clear E0 B2 hx1 hown hdl
  have hw1 : w.heap.size < w1.heap.size := C2.out.lt
  go_wp2_with fail
  have HX1 := Lib.hid ((Ext.refl w1).alloc (.cells #[.int .i64 (-1), .int .i64 (-1), .int .i64 (-1), .int .i64 (-1)] 3))
  have B5 := Lib.hid (Blk.new w1 3 #[.int .i64 (-1), .int .i64 (-1), .int .i64 (-1), .int .i64 (-1)])
  go_loopw [6] (fun v6 wr => ∃ (k : Nat) (q : Pol), k ≤ ws.length ∧ v6 = .int .i64 k ∧ Hid (((dataL ws).take k).foldl stepR (some lowP) = some q) ∧
      Hid (Blk wr w1.heap.size 3 #[.int .i64 q.d, .int .i64 q.w, .int .i64 q.m, .int .i64 q.y]) ∧ Hid (Ext w1 wr)) (fun v6 _ => ws.length - (intOf v6).toNat)
  case atStart => exact ⟨0, lowP, Nat.zero_le _, rfl, rfl, B5, HX1⟩
  case round =>
    obtain ⟨k, q, hk, rfl, HF, D5, HE⟩ := hrel
    have D2 := Lib.hid (C2.out.ext HE.out)
    have hwr : w1.heap.size < wr.heap.size := D5.out.lt
    by_cases hlt : k < ws.length
    · obtain ⟨ad, had, hbb, x0⟩ := (HS.out.ext HE.out).atS hlt
      subst had
      obtain ⟨hx0, hxs⟩ := HX.out ws[k] (List.getElem_mem hlt)
      have hfs : ((dataL ws).take (k + 1)).foldl stepR (some lowP) = stepR (some q) ws[k].data.toList := by rw [dataL_get ws hlt, List.foldl_append, HF.out]; rfl
      have hdr : (dataL ws).foldl stepR (some lowP) = ((dataL ws).drop (k + 1)).foldl stepR (stepR (some q) ws[k].data.toList) := by
        rw [← hfs, ← List.foldl_append, List.take_append_drop]
      rw [stepR_word q _ hx0] at hfs hdr
      have HFS := Lib.hid hfs
      have HDR := Lib.hid hdr
      clear hfs hdr
      generalize ws[k] = x at *
      have HT := Lib.hid (fun w => tier_any (x[0].toNat : Int) w)
      have HN := Lib.hid (fun w => number_any (x.extract 1 x.size) w (by rw [ByteArray.size_extract]; omega))
      have htc := tierI_of (x[0].toNat : Int)
      have hng := num_ge (x.extract 1 x.size).data.toList
      have hnl := num_le (x.extract 1 x.size).data.toList
      generalize numR (x.extract 1 x.size).data.toList = n at *
      obtain ⟨c, hc⟩ : ∃ c, tierI (x[0].toNat : Int) = c := ⟨_, rfl⟩
      rw [hc] at HT htc HFS HDR
      clear hc
      go_wp2_with fail
      refine (HT.out _).mono ?_
      rintro e w2 ⟨rfl, hx2⟩
      have x1 := hx2.cellv x0
      have HX2 := Lib.hid (HE.out.trans hx2)
      have D5' := Lib.hid (D5.out.ext hx2)
      have D2' := Lib.hid (D2.out.ext hx2)
      clear hx2 x0 hbb
      go_wp2_with fail
      refine (HN.out _).mono ?_
      rintro e w3 ⟨rfl, hx3⟩
      have HX3 := Lib.hid (HX2.out.trans hx3)
      have F5 := Lib.hid (D5'.out.ext hx3)
      have F2 := Lib.hid (D2'.out.ext hx3)
      have hw3 : w1.heap.size < w3.heap.size := F5.out.lt
      have z0 : w3.cell? ⟨w.heap.size, 0, none⟩ = some (.int .i64 0) := F2.out.cell 0
      have z1 : w3.cell? ⟨w.heap.size, 1, none⟩ = some (.int .i64 0) := F2.out.cell 1
      have z2 : w3.cell? ⟨w.heap.size, 2, none⟩ = some (.int .i64 0) := F2.out.cell 2
      have z3 : w3.cell? ⟨w.heap.size, 3, none⟩ = some (.int .i64 0) := F2.out.cell 3
      have g0 := F2.out.frozen 0
      have g1 := F2.out.frozen 1
      have g2 := F2.out.frozen 2
      have g3 := F2.out.frozen 3
      clear hx3 x1 D5' D2' HT HN
      have hbad : ∀ (h : c < 0 ∨ n < 0 ∨ 0 ≤ q.nth c.toNat), parseR s.data.toList = none := by
        intro h
        have h2 := HDR.out
        simp only [Int.natCast_zero, if_pos h] at h2
        rw [HPF.out, h2, foldR_none]
        rfl
      have HBAD := Lib.hid hbad
      clear hbad
      rcases htc with hc | ⟨t, ht, rfl⟩
      · go_wp2_with fail
        refine bodyPost_ret (v := .tuple #[.agg #[.int .i64 0, .int .i64 0, .int .i64 0, .int .i64 0], .int .i64 2]) (by simp [results, Tryz.results22, go_sem, *]) rfl ⟨?_, ?_⟩
        · rw [HBAD.out (.inl hc)]; exact rfl
        · repeat (first | with_reducible exact E1.out.trans HX3.out | with_reducible refine Ext.setCell ?_ (by dsimp only; omega) _)
      · have hcase : n < 0 ∨ (0 ≤ n ∧ 0 ≤ q.nth t) ∨ (0 ≤ n ∧ q.nth t < 0) := by omega
        have ht0 : (0 : Int) ≤ (t : Int) := by omega
        have ht1 : (t : Int) < 4 := by omega
        have y : w3.cell? ⟨w1.heap.size, t, none⟩ = some (.int .i64 (q.nth t)) := (F5.out.cell t).trans (nth_cell q t ht)
        have fy := F5.out.frozen t
        obtain ⟨qt, hqt⟩ : ∃ qt, q.nth t = qt := ⟨_, rfl⟩
        rw [hqt] at y hcase
        have HQT := Lib.hid hqt
        clear hqt
        rcases hcase with hn | ⟨hn, hq⟩ | ⟨hn, hq⟩
        · go_wp2_with fail
          refine bodyPost_ret (v := .tuple #[.agg #[.int .i64 0, .int .i64 0, .int .i64 0, .int .i64 0], .int .i64 2]) (by simp [results, Tryz.results22, go_sem, *]) rfl ⟨?_, ?_⟩
          · rw [HBAD.out (.inr (.inl hn))]; exact rfl
          · repeat (first | with_reducible exact E1.out.trans HX3.out | with_reducible refine Ext.setCell ?_ (by dsimp only; omega) _)
        · go_wp2_with fail
          refine bodyPost_ret (v := .tuple #[.agg #[.int .i64 0, .int .i64 0, .int .i64 0, .int .i64 0], .int .i64 2]) (by simp [results, Tryz.results22, go_sem, *]) rfl ⟨?_, ?_⟩
          · rw [HBAD.out (.inr (.inr (by rw [Int.toNat_natCast, HQT.out]; exact hq)))]; exact rfl
          · repeat (first | with_reducible exact E1.out.trans HX3.out | with_reducible refine Ext.setCell ?_ (by dsimp only; omega) _)
        · have HQ : Hid (((dataL ws).take (k + 1)).foldl stepR (some lowP) = some (q.put t n)) := Lib.hid (by
            have h2 := HFS.out
            rw [if_neg (by rw [Int.toNat_natCast, HQT.out]; omega)] at h2
            exact h2)
          have HC := Lib.hid (put_cells q t n ht)
          clear HFS HDR
          go_wp2_with fail
          go_roundw
          case measure => simp [intOf]; omega
          case rel => exact ⟨k + 1, q.put t n, by omega, by go_num, HQ, Lib.hid (by have h := F5.out.set_ t (.int .i64 n); rw [HC.out] at h; exact h), Lib.hid (HX3.out.setCell (Nat.le_refl _) _)⟩
    · obtain rfl : k = ws.length := by omega
      have hf := HF.out
      rw [List.take_of_length_le (by unfold dataL; rw [List.length_map]; exact Nat.le_refl _)] at hf
      have hpf : parseR s.data.toList = some q.pos := by rw [HPF.out, hf]; rfl
      have HP := Lib.hid hpf
      have z0 : wr.cell? ⟨w.heap.size, 0, none⟩ = some (.int .i64 0) := D2.out.cell 0
      have z1 : wr.cell? ⟨w.heap.size, 1, none⟩ = some (.int .i64 0) := D2.out.cell 1
      have z2 : wr.cell? ⟨w.heap.size, 2, none⟩ = some (.int .i64 0) := D2.out.cell 2
      have z3 : wr.cell? ⟨w.heap.size, 3, none⟩ = some (.int .i64 0) := D2.out.cell 3
      have g0 := D2.out.frozen 0
      have g1 := D2.out.frozen 1
      have g2 := D2.out.frozen 2
      have g3 := D2.out.frozen 3
      have hzero : ws.length = 0 → q = lowP := by
        intro h
        have : ws = [] := List.eq_nil_of_length_eq_zero h
        subst this
        injection hf with hf
        exact hf.symm
      have HZ := Lib.hid hzero
      clear hf hpf hzero
      have h0 : ws.length = 0 ∨ 0 < ws.length := by omega
      rcases h0 with h0 | h0
      · obtain rfl := HZ.out h0
        go_wp2_with fail
        refine bodyPost_ret (v := .tuple #[.agg #[.int .i64 0, .int .i64 0, .int .i64 0, .int .i64 0], .int .i64 0]) (by simp [results, Tryz.results22, go_sem, *]) rfl ⟨?_, ?_⟩
        · rw [HP.out]; exact rfl
        · repeat (first | with_reducible exact E1.out.trans HE.out | with_reducible refine Ext.setCell ?_ (by dsimp only; omega) _)
      · have y0 : wr.cell? ⟨w1.heap.size, 0, none⟩ = some (.int .i64 q.d) := D5.out.cell 0
        have y1 : wr.cell? ⟨w1.heap.size, 1, none⟩ = some (.int .i64 q.w) := D5.out.cell 1
        have y2 : wr.cell? ⟨w1.heap.size, 2, none⟩ = some (.int .i64 q.m) := D5.out.cell 2
        have y3 : wr.cell? ⟨w1.heap.size, 3, none⟩ = some (.int .i64 q.y) := D5.out.cell 3
        clear HF HS HX HPF HZ
        have hgg : w.heap.size ≠ w1.heap.size := by omega
        go_upto_region 13 with (fail)
        go_region_held3 (fun w' => w'.cell? ⟨w1.heap.size, 0, none⟩ = some (.int .i64 q.d) ∧ w'.cell? ⟨w1.heap.size, 1, none⟩ = some (.int .i64 q.w) ∧ w'.cell? ⟨w1.heap.size, 2, none⟩ = some (.int .i64 q.m) ∧ w'.cell? ⟨w1.heap.size, 3, none⟩ = some (.int .i64 q.y)) (first | go_keep | exact ⟨cell_far4 hgg y0, cell_far4 hgg y1, cell_far4 hgg y2, cell_far4 hgg y3⟩) (fail)
        all_goals go_wp2_with fail
        all_goals
          refine bodyPost_ret (v := .tuple #[.agg #[.int .i64 (max q.d 0), .int .i64 (max q.w 0), .int .i64 (max q.m 0), .int .i64 (max q.y 0)], .int .i64 0]) (by simp [results, Tryz.results22, go_sem, *]) rfl ⟨?_, ?_⟩
          · rw [HP.out]; exact rfl
          · repeat (first | with_reducible exact E1.out.trans HE.out | with_reducible refine Ext.drew ?_ | with_reducible refine Ext.setCell ?_ (by dsimp only; omega) _)
end Go.Proofs.YtdnmpkdnfockgaaGreatDoor
