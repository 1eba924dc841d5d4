/-
  Words for a row of the call's own that the library sorts or compacts.
-/
import Derived.Test.YtdnmpkdnfockgaaGreatDoorWords
import Derived.Shelf.GgSortFunc.RowK
import Derived.Sort.Grow
namespace Go.Proofs.YtdnmpkdnfockgaaGreatDoor
open Go.RowKit Go.Sort

section
variable {α : Type} [Inhabited α] {enc : α → List Value} {k : Nat}
theorem flatK_toList (hk0 : 0 < k) (hk : ∀ x : α, (enc x).length = k) (d : Array α) : (flatK enc k d).toList = d.toList.flatMap enc := by
  apply List.ext_getElem?
  intro t
  have hl : (d.toList.flatMap enc).length = d.size * k := by rw [flat_len hk, Array.length_toList]
  by_cases ht : t < d.size * k
  · have h1 : t / k < d.size := (Nat.div_lt_iff_lt_mul hk0).2 ht
    have h2 : t % k < k := Nat.mod_lt _ hk0
    have h3 := get_flatK enc k d t ht
    have hd : d.toList[t / k]? = some d[t / k]! := by
      rw [Array.getElem?_toList, getElem!_pos d _ h1, Array.getElem?_eq_getElem h1]
    have h2' : t % k < (enc d[t / k]!).length := by rw [hk]; exact h2
    have he : (enc d[t / k]!)[t % k]? = some (enc d[t / k]!)[t % k]! := by
      rw [getElem!_pos (enc d[t / k]!) (t % k) h2', List.getElem?_eq_getElem h2']
    have h4 := flat_get hk d.toList (t / k) _ hd (t % k) _ he
    rw [Nat.div_add_mod' t k] at h4
    have hsz : t < (flatK enc k d).size := by rw [size_flatK]; exact ht
    rw [h4, Array.getElem?_toList, Array.getElem?_eq_getElem hsz, ← getElem!_pos _ t hsz, h3]
  · rw [List.getElem?_eq_none (by rw [Array.length_toList, size_flatK]; omega), List.getElem?_eq_none (by omega)]
end

/-- The world behind the library's sort of the row in block g: that row holds F; draws; new blocks. -/
def sorted (w : World) (g m : Nat) (F : Array Value) (os : Array Obj) : World := grow (putRow id (Sort.ahead w m) g 0 F) os
theorem putCells_map {β : Type} [Inhabited β] (f : β → Value) (off : Nat) (d : Array β) (c : Array Value) : putCells f off d c = putCells id off (d.map f) c := by
  unfold putCells
  congr 1
  funext i x
  rw [Array.size_map]
  split
  · rename_i h
    rw [getElem!_pos d _ (by omega), getElem!_pos (d.map f) _ (by rw [Array.size_map]; omega), Array.getElem_map]
    rfl
  · rfl
theorem putRow_map {β : Type} [Inhabited β] (f : β → Value) (w : World) (g off : Nat) (d : Array β) : putRow f w g off d = putRow id w g off (d.map f) := by
  unfold putRow
  congr 1
  funext c
  exact putCells_map f off d c
theorem sorted_heap (w : World) (g m : Nat) (F : Array Value) (os : Array Obj) (i : Nat) (hi : i < w.heap.size) (hne : i ≠ g) : (sorted w g m F os).heap[i]? = w.heap[i]? := by
  unfold sorted grow putRow mapBlock Sort.ahead
  simp only
  rw [Array.getElem?_append_left (by rw [Array.size_modify]; exact hi), Array.getElem?_modify, if_neg (fun h => hne h.symm)]
theorem sorted_at (w : World) (g m : Nat) (F : Array Value) (os : Array Obj) {cur : Array Value} {e : TypeId} {fr : Nat × Nat} (h : w.heap[g]? = some (.cells cur e fr)) : (sorted w g m F os).heap[g]? = some (.cells (putCells id 0 F cur) e fr) := by
  have hg : g < w.heap.size := by
    rcases Nat.lt_or_ge g w.heap.size with hlt | hge
    · exact hlt
    · rw [Array.getElem?_eq_none hge] at h; cases h
  unfold sorted grow putRow mapBlock Sort.ahead
  simp only
  rw [Array.getElem?_append_left (by rw [Array.size_modify]; exact hg), Array.getElem?_modify, if_pos rfl, h]
  rfl
theorem sorted_size (w : World) (g m : Nat) (F : Array Value) (os : Array Obj) : w.heap.size ≤ (sorted w g m F os).heap.size := by
  unfold sorted grow putRow mapBlock Sort.ahead
  simp
theorem Ext.sorted {w0 w : World} (h : Ext w0 w) {g : Nat} (hg : w0.heap.size ≤ g) (m : Nat) (F : Array Value) (os : Array Obj) : Ext w0 (sorted w g m F os) :=
  ⟨h.os, h.tape, h.output, Nat.le_trans h.size (sorted_size ..), fun i hi => by rw [sorted_heap _ _ _ _ _ _ (Nat.lt_of_lt_of_le hi h.size) (by omega)]; exact h.heap hi⟩

section
variable {α : Type} {enc : α → List Value} {k : Nat} {e : TypeId} {w : World} {base g c : Nat} {xs : List α}
theorem Own.holds (h : Own enc e k w base (.slice (some ⟨g, 0, none⟩) xs.length c) xs) : ∀ j, j < (xs.flatMap enc).length → w.cell? ⟨g, j, none⟩ = (xs.flatMap enc)[j]? ∧ w.frozen? ⟨g, j, none⟩ = false := by
  intro j hj
  have hl := h.1
  exact ⟨World.ownsRow.cellAt h j (by omega), World.ownsRow.frozenAt h j⟩
/-- The row is put anew: it owns what was put. -/
theorem Own.put {ys : List α} (hk : ∀ x : α, (enc x).length = k) (h : Own enc e k w base (.slice (some ⟨g, 0, none⟩) xs.length c) xs) (F : Array Value) (m : Nat) (os : Array Obj) (hF : F.size = xs.length * k) (hys : F.toList.take (ys.length * k) = ys.flatMap enc) (hle : ys.length ≤ xs.length) :
    Own enc e k (sorted w g m F os) base (.slice (some ⟨g, 0, none⟩) ys.length c) ys := by
  refine ⟨flat_len hk ys, ?_⟩
  rcases h.2 with ⟨hv, _⟩ | ⟨g', cap, cur, hv, hb, hh, hnc, hcm, hcs, _⟩
  · cases hv
  · injection hv with h1 h2 h3
    injection h1 with h1
    injection h1 with h1
    subst h1 h3
    refine .inr ⟨g, c, putCells id 0 F cur, rfl, hb, sorted_at _ _ _ _ _ hh, by omega, hcm, ?_, ?_⟩
    · unfold putCells; rw [Array.size_mapIdx]; exact hcs
    · rw [← hys]
      apply List.ext_getElem?
      intro t
      rw [List.getElem?_take, List.getElem?_take]
      split
      · rename_i ht
        have ht2 : t < F.size := by
          have := Nat.mul_le_mul_right k hle
          omega
        have ht3 : t < cur.size := by
          have := Nat.mul_le_mul_right k hnc
          omega
        rw [Array.getElem?_toList, Array.getElem?_toList]
        unfold putCells
        rw [Array.getElem?_mapIdx, Array.getElem?_eq_getElem ht3, Array.getElem?_eq_getElem ht2]
        simp [ht2]
      · rfl
end
end Go.Proofs.YtdnmpkdnfockgaaGreatDoor
