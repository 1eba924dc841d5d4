/-
  What is asked of the library holds (the shelf's contracts).
-/
import Derived.Test.YtdnmpkdnfockgaaGreatDoorShelf
import Derived.Test.YtdnmpkdnfockgaaGreatDoorShown
namespace Go.Proofs.YtdnmpkdnfockgaaGreatDoor
open Go.RowKit Go.Sort Go.Shelf

instance : Inhabited Lk := ⟨zeroLk⟩

theorem sorted_grown (w : World) (g m : Nat) (F : Array Value) (os : Array Obj) : w.grownBy (sorted w g m F os) (some g) :=
  ⟨rfl, rfl, rfl, sorted_size .., fun k hk hne => sorted_heap _ _ _ _ _ _ hk (fun e => hne (by rw [e]))⟩
theorem ext_grow (w : World) (k : Nat) (os : Array Obj) : Ext w (grow (w.drewN k) os) :=
  ⟨rfl, rfl, rfl, by simp [grow, World.drewN], fun i hi => by simp only [grow, World.drewN]; rw [Array.getElem?_append_left hi]⟩

theorem holdsF {α : Type} {enc : α → List Value} {k : Nat} {e : TypeId} {w : World} {base g c : Nat} {xs : List α} (h : Own enc e k w base (.slice (some ⟨g, 0, none⟩) xs.length c) xs) (F : Array Value) (hF : F.toList = xs.flatMap enc) : Holds id w g 0 F := by
  intro j hj
  have hj' : j < (xs.flatMap enc).length := by rw [← hF, Array.length_toList]; exact hj
  obtain ⟨h1, h2⟩ := h.holds j hj'
  rw [Nat.zero_add]
  refine ⟨?_, h2⟩
  rw [h1, ← hF, Array.getElem?_toList, getElem!_pos F j hj, Array.getElem?_eq_getElem hj]
  rfl

theorem swo_cmpK : SWO (ltOf cmpK) := by
  have h : ∀ x y, ltOf cmpK x y = !leK y x := by
    intro x y
    unfold ltOf leK
    by_cases h : cmpK x y < 0 <;> simp [h]
  refine ⟨fun x => ?_, fun x y z h1 h2 => ?_, fun x y z h1 h2 => ?_⟩
  · rw [h, Bool.not_eq_false', leK_iff]; omega
  · rw [h, Bool.not_eq_true', ← Bool.not_eq_true, leK_iff] at *; omega
  · rw [h, Bool.not_eq_false', leK_iff] at *; omega

theorem sortL_ok : SortLC := by
  intro w base A c xs hown h60
  rcases hown.2 with ⟨hv, hx⟩ | ⟨g, cap, cur, hv, hb, hh, hnc, hcm, hcs, hfl⟩
  · injection hv with h1 h2 h3
    have hxs : xs = [] := List.eq_nil_of_length_eq_zero h2
    subst hxs
    refine (AnyF.slices_SortFunc_none Tryz.sortLk A c _ w).mono ?_
    rintro e w' ⟨rfl, rfl⟩
    exact ⟨rfl, ⟨[], hown, List.Perm.refl _, List.Pairwise.nil⟩, World.grownBy.refl _ _⟩
  · injection hv with h1 h2 h3
    subst h1 h3
    have hg : g < w.heap.size := by
      rcases Nat.lt_or_ge g w.heap.size with hlt | hge
      · exact hlt
      · rw [Array.getElem?_eq_none hge] at hh; cases hh
    have hF : (flatK Lk.enc 6 xs.toArray).toList = xs.flatMap Lk.enc := flatK_toList (by omega) Lk.enc_len xs.toArray
    have hH : HoldsK Lk.enc 6 w g 0 xs.toArray := holdsF hown _ hF
    have hcmp : CmpLays Tryz.prog 30 #[] Lk.enc 6 cmpK g 0 xs.toArray.size w := fun m os dk _ x y => keep1_any x y _
    have hc := AnyQ.slices_SortFunc Tryz.sortLk 6 (fun w => by kernel_rfl) (fun w => by kernel_rfl) Lk.enc Lk.enc_len Lk.one cmpK swo_cmpK 30 #[] g 0 c xs.toArray w (fun _ _ => by kernel_rfl) hcmp hH hg (by simp; omega)
    refine Calls.mono (show Calls Tryz.prog 29 #[.slice (some ⟨g, 0, none⟩) xs.length c, .func (.func 30) #[] #[]] w _ from hc) ?_
    rintro e w' ⟨rfl, d', n, os, hp, hs, rfl⟩
    have hsz : d'.size = xs.length := by simpa using hp.1
    have hw : sortWorldK Lk.enc 6 w g 0 n d' os = sorted w g n (flatK Lk.enc 6 d') os := rfl
    rw [hw]
    refine ⟨rfl, ⟨d'.toList, ?_, ?_, ?_⟩, sorted_grown ..⟩
    · have := hown.put Lk.enc_len (flatK Lk.enc 6 d') n os (ys := d'.toList) (by rw [size_flatK, hsz]) (by rw [flatK_toList (by omega) Lk.enc_len, List.take_of_length_le]; rw [flat_len Lk.enc_len]; exact Nat.le_refl _) (by simp [hsz])
      rwa [Array.length_toList, hsz] at this
    · have h3 := hp.2.2
      have e1 : d'.extract 0 xs.toArray.size = d' := by rw [show xs.toArray.size = d'.size by simp [hsz]]; exact Array.extract_size
      rw [e1, Array.extract_size] at h3
      simpa using h3
    · rw [List.pairwise_iff_getElem]
      intro i j hi hj hij
      rw [Array.length_toList] at hi hj
      have := hs i j (by omega) hij (by simp; omega)
      unfold ltOf at this
      rw [decide_eq_false_iff_not, getElem!_pos d' i hi, getElem!_pos d' j hj] at this
      simpa using this

theorem encI_flat (xs : List Int) : xs.flatMap encI = xs.map (Value.int .i64) := by
  induction xs with
  | nil => rfl
  | cons x xs ih => rw [List.flatMap_cons, List.map_cons, ih]; rfl
theorem own_int {w : World} {base : Nat} {A : Option Addr} {c : Nat} {xs : List Int} (hown : Own encI 3 1 w base (.slice A xs.length c) xs) : (xs = []) ∨ ∃ g, A = some ⟨g, 0, none⟩ ∧ g < w.heap.size ∧ xs.length ≤ c ∧ Holds (Value.int .i64) w g 0 xs.toArray := by
  rcases hown.2 with ⟨hv, hx⟩ | ⟨g, cap, cur, hv, hb, hh, hnc, hcm, hcs, hfl⟩
  · injection hv with h1 h2 h3
    exact .inl (List.eq_nil_of_length_eq_zero h2)
  · injection hv with h1 h2 h3
    subst h1 h3
    refine .inr ⟨g, rfl, ?_, hnc, fun j hj => ?_⟩
    · rcases Nat.lt_or_ge g w.heap.size with hlt | hge
      · exact hlt
      · rw [Array.getElem?_eq_none hge] at hh; cases hh
    · have hj' : j < xs.length := by simpa using hj
      obtain ⟨h1, h2⟩ := hown.holds j (by rw [flat_len encI_len]; omega)
      rw [Nat.zero_add]
      refine ⟨?_, h2⟩
      rw [h1, encI_flat, List.getElem?_map, List.getElem?_eq_getElem hj', getElem!_pos xs.toArray j hj]
      simp

theorem sortI_ok : SortIC := by
  intro w base A c xs hown hl
  rcases own_int hown with rfl | ⟨g, rfl, hg, hc, hH⟩
  · refine (Tryz.slices_Sort_int_none A c w).mono ?_
    rintro e w' ⟨rfl, rfl⟩
    refine ⟨rfl, by simpa using hown, World.grownBy.refl _ _⟩
  · refine (Tryz.slices_Sort_int g 0 c xs w hH hg (by omega)).mono ?_
    rintro e w' ⟨rfl, n, os, rfl⟩
    rw [putRow_map]
    refine ⟨rfl, ?_, sorted_grown ..⟩
    have := hown.put encI_len (((xs.mergeSort fun x y => decide (x ≤ y)).toArray).map (Value.int .i64)) n os (ys := xs.mergeSort fun x y => decide (x ≤ y)) (by simp) (by rw [encI_flat, List.take_of_length_le] <;> simp) (by simp)
    rwa [List.length_mergeSort] at this

theorem compact_len (l : List Int) : (Lib.compact l).length ≤ l.length := by
  unfold Lib.compact Lib.compactUpTo
  rw [List.length_map]
  exact Nat.le_trans (List.length_filter_le _ _) (by rw [List.length_range]; exact Nat.le_refl _)
theorem compact_ok : CompactC := by
  intro w base A c xs hown hl
  rcases own_int hown with rfl | ⟨g, rfl, hg, hc, hH⟩
  · refine (Tryz.slices_Compact_int_empty A c w).mono ?_
    rintro e w' ⟨rfl, rfl⟩
    exact ⟨rfl, hown, World.grownBy.refl _ _⟩
  · refine (Tryz.slices_Compact_int g 0 c xs w hH (by omega) hc).mono ?_
    rintro e w' ⟨rfl, q, rfl⟩
    rw [putRow_map]
    have hcl := compact_len xs
    refine ⟨rfl, ?_, ?_⟩
    · refine hown.put encI_len _ q #[] (ys := Lib.compact xs) ?_ ?_ hcl
      · simp; omega
      · rw [encI_flat]
        simp
    · exact sorted_grown w g q _ #[]
theorem contains_ok : ContainsC := by
  intro w g c xs x hs hl
  rcases hs with rfl | ⟨ad, had, hb, hc⟩
  · refine (Tryz.slices_Contains_int_empty (some ⟨g, 0, none⟩) c x w).mono ?_
    rintro e w' ⟨rfl, rfl⟩
    exact ⟨rfl, rfl⟩
  · injection had with had
    subst had
    refine (Tryz.slices_Contains_int g 0 xs.length c xs x w (Nat.le_refl _) (by omega) (fun j hj => ?_)).mono ?_
    · have h := hc j xs[j] (List.getElem?_eq_getElem hj) 0 _ rfl
      rw [Nat.mul_one, Nat.add_zero, add_off0] at h
      rw [Nat.zero_add, h, List.getD_eq_getElem?_getD, List.getElem?_eq_getElem hj]
      rfl
    · rintro e w' ⟨rfl, rfl⟩
      rw [List.take_length]
      exact ⟨rfl, rfl⟩

theorem pow_ext {w w' : World} (h : Lib.TabIs Tryz.prog w "internal/strconv.uint64pow10" .u64 Lib.pow10Tab) (he : Ext w w') : Lib.TabIs Tryz.prog w' "internal/strconv.uint64pow10" .u64 Lib.pow10Tab := by
  have hgn : Tryz.prog.globalNamed "internal/strconv.uint64pow10" = some 3 := by kernel_rfl
  unfold Lib.TabIs World.var? at h ⊢
  rw [hgn] at h ⊢
  simp only [Option.bind_some] at h ⊢
  have hlt : 3 < w.heap.size := by
    rcases Nat.lt_or_ge 3 w.heap.size with h' | h'
    · exact h'
    · rw [Array.getElem?_eq_none h'] at h; cases h
  rw [he.heap hlt]
  exact h
/-- What the laws ask of the world. -/
structure Env (w : World) : Prop where
  tabs : Tabs w
  maxl : ∃ m : Int, w.cell? ⟨0, 0, none⟩ = some (.int .i64 m)
  pow : Lib.TabIs Tryz.prog w "internal/strconv.uint64pow10" .u64 Lib.pow10Tab
theorem valid_ok : ValidC := fun s w hs ht => Any.utf8_ValidString Tryz.laysValid s w hs ht
theorem libC_ok : LibC := ⟨valid_ok, sortL_ok, sortI_ok, compact_ok, contains_ok⟩
theorem itoa_ok : ItoaC Env := fun n w h0 h1 h => (Tryz.strconv_Itoa n (by omega) (by omega) w h.pow).mono fun _ _ ⟨he, k, os, hw⟩ => ⟨he, by rw [hw]; exact ext_grow w k os⟩
theorem index_ok : IndexC Env := fun sub w h => by
  obtain ⟨m, hm⟩ := h.maxl
  exact (Tryz.strings_Index ⟨#[100, 119, 109, 121]⟩ sub m w (by decide) hm).mono fun _ _ ⟨he, hw⟩ => ⟨he, hw.symm⟩
theorem has_ok : HasC Env := fun s sub w h hs => by
  obtain ⟨m, hm⟩ := h.maxl
  exact (Tryz.strings_Contains s sub m w (by omega) hm).mono fun _ _ ⟨he, hw⟩ => ⟨he, hw.symm⟩
theorem trim_ok : TrimC := fun s p w => (Tryz.strings_TrimPrefix s p w).mono fun _ _ ⟨he, hw⟩ => ⟨he, hw.symm⟩
theorem split_ok : SplitC Env := fun s w h hs => by
  obtain ⟨m, hm⟩ := h.maxl
  refine (Tryz.strings_Split s ⟨#[32]⟩ m w (by omega) hm (by decide)).mono ?_
  rintro e w' ⟨rfl, rfl⟩
  have hlen : (splitF s).length = Lib.countB s ⟨#[32]⟩ + 1 := Lib.splitB_all ⟨#[32]⟩ (by decide) 0 _ s rfl
  refine ⟨⟨Lib.countB s ⟨#[32]⟩ + 1, by rw [hlen], ?_⟩, (Ext.refl w).alloc _⟩
  refine Sl.of_blk encS_len (Blk.new w _ _) ?_
  show ((splitF s).map Value.string) = (splitF s).flatMap encS
  generalize splitF s = l
  induction l with
  | nil => rfl
  | cons x l ih => rw [List.flatMap_cons, List.map_cons, ih]; rfl
theorem env_hold : Holdfast Env := fun w w' h he => by
  refine ⟨h.tabs.ext he, ?_, ?_⟩
  · obtain ⟨m, hm⟩ := h.maxl
    exact ⟨m, he.cellv hm⟩
  · exact pow_ext h.pow he
theorem libAll_ok : LibAll Env := ⟨libC_ok, ⟨env_hold, itoa_ok, split_ok, index_ok, has_ok, trim_ok⟩, fun _ h => h.tabs⟩
end Go.Proofs.YtdnmpkdnfockgaaGreatDoor
