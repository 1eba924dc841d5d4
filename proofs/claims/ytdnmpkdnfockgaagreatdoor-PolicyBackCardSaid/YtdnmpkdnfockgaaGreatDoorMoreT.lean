/-
  The tree that is left is right; what grown makes.
-/
import Derived.Test.YtdnmpkdnfockgaaGreatDoorMoreF
import Derived.Test.YtdnmpkdnfockgaaGreatDoorGrown
namespace Go.Proofs.YtdnmpkdnfockgaaGreatDoor
open Go.RowKit

theorem treeOk_parts {l : List Lk} {live next : Int} (h : treeOk l live next = true) : 0 < l.length ∧ l.length ≤ 60 ∧ (∀ i, i < l.length → okAt l i (l.getD i zeroLk) = true) ∧ hasL l live = true ∧ (l.getD (l.length - 1) zeroLk).id < next ∧ next ≤ 2147483647 := by
  have h2 := treeOk_at h
  unfold treeOk at h
  simp only [Bool.and_eq_true, decide_eq_true_eq] at h
  exact ⟨h.1, h.2.1, h2, h.2.2.2.1, h.2.2.2.2.1, h.2.2.2.2.2⟩
theorem treeOk_mk {l : List Lk} {live next : Int} (h0 : 0 < l.length) (h1 : l.length ≤ 60) (h2 : ∀ i, i < l.length → okAt l i (l.getD i zeroLk) = true) (h3 : hasL l live = true) (h4 : (l.getD (l.length - 1) zeroLk).id < next) (h5 : next ≤ 2147483647) : treeOk l live next = true := by
  unfold treeOk
  simp only [Bool.and_eq_true, decide_eq_true_eq]
  refine ⟨h0, h1, ?_, h3, h4, h5⟩
  rw [List.all_eq_true]
  exact fun i hi => h2 i (List.mem_range.1 hi)
theorem getD_at (l : List Lk) {i : Nat} (h : i < l.length) : l.getD i zeroLk = l[i] := by
  rw [List.getD_eq_getElem?_getD, List.getElem?_eq_getElem h]; rfl
theorem treeOk_lt {l : List Lk} {live next : Int} (h : treeOk l live next = true) : ∀ x ∈ l, x.id < next := by
  have hr := treeOk_rise h
  obtain ⟨h0, _, _, _, h4, _⟩ := treeOk_parts h
  intro x hx
  obtain ⟨i, hi, rfl⟩ := List.mem_iff_getElem.1 hx
  rw [getD_at l (by omega)] at h4
  by_cases e : i = l.length - 1
  · subst e; exact h4
  · have := List.pairwise_iff_getElem.1 hr i (l.length - 1) hi (by omega) (by omega)
    omega
theorem treeOk_well {l : List Lk} {live next : Int} (h : treeOk l live next = true) : ∀ x ∈ l, x.well = true := by
  intro x hx
  obtain ⟨i, hi, rfl⟩ := List.mem_iff_getElem.1 hx
  have := (treeOk_parts h).2.2.1 i hi
  rw [getD_at l hi] at this
  unfold okAt at this
  simp only [Bool.and_eq_true] at this
  exact this.1
theorem treeOk_first {r : Lk} {rest : List Lk} {live next : Int} (h : treeOk (r :: rest) live next = true) : r.id = 1 ∧ r.ghost = false := by
  have := (treeOk_parts h).2.2.1 0 (by simp)
  unfold okAt firstB at this
  simp at this
  exact ⟨this.2.1, this.2.2.2⟩
theorem live_keep {p : Pol} {r : Lk} {rest : List Lk} {live next : Int} (h : treeOk (r :: rest) live next = true) (hg : ∀ x ∈ rest, x.ghost = false) : live ∈ keepF p (r :: rest) live := by
  obtain ⟨x, hx, he⟩ := List.any_eq_true.1 (treeOk_parts h).2.2.2.1
  have he' : x.id = live := beq_iff_eq.1 he
  unfold keepF
  rw [keepOf_mem]
  rcases List.mem_cons.1 hx with hx | hx
  · left; rw [← he', hx]; exact (treeOk_first h).1
  · refine .inr (.inl ?_)
    unfold pinIds
    refine List.mem_map.2 ⟨x, List.mem_filter.2 ⟨hx, ?_⟩, he'⟩
    rw [hg x hx, he, Bool.or_true]; rfl

theorem tree_left {kp : List Int} {r : Lk} {rest : List Lk} {live next : Int} (h : treeOk (r :: rest) live next = true) (h1 : (1 : Int) ∈ kp) (hlive : live ∈ kp) : treeOk (leftF kp (r :: rest)) live next = true := by
  obtain ⟨hr1, hrg⟩ := treeOk_first h
  obtain ⟨h0, h60, hall, hhas, hlast, hnext⟩ := treeOk_parts h
  have hrise := treeOk_rise h
  have hlen := leftF_len kp (r :: rest)
  have hc := leftF_cons (keep := kp) (r := r) (rest := rest) (by rw [hr1]; exact h1)
  rw [hc] at hlen ⊢
  have hwell := treeOk_well h
  have hrise2 : (mk 0 r :: (rest.filter (inK kp)).map re).Pairwise (fun a b => a.id < b.id) := by
    rw [List.pairwise_cons] at hrise ⊢
    refine ⟨?_, ?_⟩
    · intro b hb
      obtain ⟨y, hy, rfl⟩ := List.mem_map.1 hb
      exact hrise.1 y (List.mem_filter.1 hy).1
    · rw [List.pairwise_map]
      exact (hrise.2.filter _).imp (fun h => h)
  have hids : ∀ x ∈ (mk 0 r :: (rest.filter (inK kp)).map re), ∃ y ∈ (r :: rest), x.id = y.id := by
    intro x hx
    rcases List.mem_cons.1 hx with hx | hx
    · exact ⟨r, List.mem_cons_self .., by rw [hx]; rfl⟩
    · obtain ⟨y, hy, rfl⟩ := List.mem_map.1 hx
      exact ⟨y, List.mem_cons_of_mem _ (List.mem_filter.1 hy).1, rfl⟩
  refine treeOk_mk (by simp) (by omega) ?_ ?_ ?_ hnext
  · intro i hi
    rw [getD_at _ hi]
    unfold okAt
    cases i with
    | zero =>
      rw [if_pos rfl]
      have hw : (mk 0 r).well = true := hwell r (List.mem_cons_self ..)
      rw [List.getElem_cons_zero, hw]
      simp [firstB, mk, hr1, hrg]
      omega
    | succ j =>
      rw [if_neg (by omega), List.getElem_cons_succ]
      have hj : j < ((rest.filter (inK kp)).map re).length := by simpa using hi
      obtain ⟨y, hy, hye⟩ := List.mem_map.1 (List.getElem_mem hj)
      have hw : (re y).well = true := hwell y (List.mem_cons_of_mem _ (List.mem_filter.1 hy).1)
      have hlt := List.pairwise_iff_getElem.1 hrise2 j (j + 1) (by omega) hi (by omega)
      rw [List.getElem_cons_succ] at hlt
      rw [show j + 1 - 1 = j from rfl, getD_at _ (show j < (mk 0 r :: (rest.filter (inK kp)).map re).length by omega), decide_eq_true hlt, Bool.and_true, ← hye, hw, Bool.true_and]
      unfold hasL
      rw [List.take_succ_cons, List.any_cons]
      have : ((mk 0 r).id == (re y).parent) = true := by simp [mk, re, hr1]
      rw [this, Bool.true_or]
  · obtain ⟨x, hx, he⟩ := List.any_eq_true.1 hhas
    have he' : x.id = live := beq_iff_eq.1 he
    unfold hasL
    rw [List.any_eq_true]
    rcases List.mem_cons.1 hx with hx | hx
    · exact ⟨mk 0 r, List.mem_cons_self .., by rw [← he, hx]; rfl⟩
    · refine ⟨re x, List.mem_cons_of_mem _ (List.mem_map.2 ⟨x, List.mem_filter.2 ⟨hx, ?_⟩, rfl⟩), he⟩
      unfold inK
      rw [he']
      exact decide_eq_true hlive
  · have hl := List.getElem_mem (l := mk 0 r :: (rest.filter (inK kp)).map re) (n := (mk 0 r :: (rest.filter (inK kp)).map re).length - 1) (by simp)
    rw [getD_at _ (by simp)]
    obtain ⟨y, hy, hye⟩ := hids _ hl
    rw [hye]
    exact treeOk_lt h y hy

/-! ### What grown makes -/
theorem linksF_root (l : List Nd) (k : Nat) : linksF l k = rootL :: (l.take k).mapIdx nodeL := rfl
theorem linksF_rest {l : List Nd} {k : Nat} {x : Lk} (hx : x ∈ (l.take k).mapIdx nodeL) : ∃ i n, n ∈ l ∧ x = nodeL i n := by
  obtain ⟨i, hi, rfl⟩ := List.mem_iff_getElem.1 hx
  rw [List.getElem_mapIdx]
  exact ⟨i, _, List.mem_of_mem_take (List.getElem_mem _), rfl⟩
theorem linksF_ghost {l : List Nd} {k : Nat} : ∀ x ∈ (l.take k).mapIdx nodeL, x.ghost = false := by
  intro x hx
  obtain ⟨i, n, _, rfl⟩ := linksF_rest hx
  rfl
theorem linksF_name {l : List Nd} {k : Nat} : ∀ x ∈ linksF l k, x.name.size ≤ 65536 := by
  intro x hx
  rcases List.mem_cons.1 hx with hx | hx
  · rw [hx]; decide
  · obtain ⟨i, n, _, rfl⟩ := linksF_rest hx
    show (ByteArray.mk #[110]).size ≤ 65536
    decide
def Nd.timed (x : Nd) : Prop := 0 ≤ x.time ∧ x.time / 86400 ≤ 213503982334601
theorem linksF_timed {l : List Nd} {k : Nat} (h : ∀ n ∈ l, n.timed) : ∀ x ∈ linksF l k, x.timed := by
  intro x hx
  rcases List.mem_cons.1 hx with hx | hx
  · rw [hx]; unfold Lk.timed rootL; exact ⟨by decide, by decide⟩
  · obtain ⟨i, n, hn, rfl⟩ := linksF_rest hx
    exact h n hn
theorem leftF_sub {kp : List Int} {l : List Lk} {P : Lk → Prop} (hP : ∀ i x, P x → P (mk i x)) (h : ∀ x ∈ l, P x) : ∀ x ∈ leftF kp l, P x := by
  intro x hx
  have hx := (List.mem_filter.1 hx).1
  obtain ⟨i, hi, rfl⟩ := List.mem_iff_getElem.1 hx
  rw [List.getElem_mapIdx]
  exact hP _ _ (h _ (List.getElem_mem _))
end Go.Proofs.YtdnmpkdnfockgaaGreatDoor
