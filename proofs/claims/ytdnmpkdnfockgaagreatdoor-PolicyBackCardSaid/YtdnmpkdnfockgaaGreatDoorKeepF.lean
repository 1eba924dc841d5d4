/-
  policy.Keep in plain words: one list, and what is in it.
-/
import Derived.Test.YtdnmpkdnfockgaaGreatDoorKeep
namespace Go.Proofs.YtdnmpkdnfockgaaGreatDoor
open Go.RowKit

theorem compUp_mem (d : Array Int) : ∀ (m : Nat) (x : Int), x ∈ Lib.compactUpTo d m ↔ ∃ j, j < m ∧ d[j]! = x := by
  intro m
  induction m with
  | zero => intro x; simp [Lib.compactUpTo]
  | succ m ih =>
    intro x
    rw [Lib.compactUpTo_succ, List.mem_append, ih]
    cases hk : Lib.keeps d m with
    | true =>
      rw [if_pos rfl, List.mem_singleton]
      constructor
      · rintro (⟨j, hj, h⟩ | h)
        · exact ⟨j, by omega, h⟩
        · exact ⟨m, by omega, h.symm⟩
      · rintro ⟨j, hj, h⟩
        by_cases e : j = m
        · subst e; exact .inr h.symm
        · exact .inl ⟨j, by omega, h⟩
    | false =>
      rw [if_neg (by simp)]
      constructor
      · rintro (⟨j, hj, h⟩ | h)
        · exact ⟨j, by omega, h⟩
        · cases h
      · rintro ⟨j, hj, h⟩
        left
        by_cases e : j = m
        · subst e
          have hp : 0 < j := by
            rcases Nat.eq_zero_or_pos j with h0 | h0
            · subst h0; rw [Lib.keeps_lt_one d 0 (by omega)] at hk; cases hk
            · exact h0
          have hd : d[j]! = d[j - 1]! := by
            by_cases hd : d[j]! = d[j - 1]!
            · exact hd
            · rw [Lib.keeps_pos hd] at hk; cases hk
          exact ⟨j - 1, by omega, hd ▸ h⟩
        · exact ⟨j, by omega, h⟩
theorem get_bang (l : List Int) (j : Nat) (h : j < l.length) : l.toArray[j]! = l[j] := by
  rw [getElem!_pos l.toArray j (by simpa using h)]; simp
theorem compact_mem (l : List Int) (x : Int) : x ∈ Lib.compact l ↔ x ∈ l := by
  unfold Lib.compact
  rw [compUp_mem, List.mem_iff_getElem]
  constructor
  · rintro ⟨j, hj, h⟩; exact ⟨j, hj, by rw [← h, get_bang l j hj]⟩
  · rintro ⟨j, hj, h⟩; exact ⟨j, hj, by rw [← h, get_bang l j hj]⟩
theorem compUp_sorted (d : Array Int) (n : Nat) (hd : ∀ i j, i < j → j < n → d[i]! ≤ d[j]!) : ∀ m, m ≤ n → (Lib.compactUpTo d m).Pairwise (· < ·) := by
  intro m
  induction m with
  | zero => intro _; simp [Lib.compactUpTo]
  | succ m ih =>
    intro hm
    rw [Lib.compactUpTo_succ]
    cases hk : Lib.keeps d m with
    | false => rw [if_neg (by simp), List.append_nil]; exact ih (by omega)
    | true =>
      rw [if_pos rfl, List.pairwise_append]
      refine ⟨ih (by omega), by simp, ?_⟩
      intro a ha b hb
      rw [List.mem_singleton] at hb
      subst hb
      obtain ⟨j, hj, rfl⟩ := (compUp_mem d m a).1 ha
      have h1 : d[m - 1]! ≤ d[m]! := hd (m - 1) m (by omega) (by omega)
      have h2 : d[m - 1]! ≠ d[m]! := by
        intro h
        rw [Lib.keeps_neg (by omega) h.symm] at hk
        cases hk
      have h3 : d[j]! ≤ d[m - 1]! := by
        by_cases e : j = m - 1
        · subst e; exact Int.le_refl _
        · exact hd j (m - 1) (by omega) (by omega)
      omega
theorem compact_sorted (l : List Int) (h : l.Pairwise (· ≤ ·)) : (Lib.compact l).Pairwise (· < ·) := by
  unfold Lib.compact
  refine compUp_sorted l.toArray l.length (fun i j hij hj => ?_) l.length (Nat.le_refl _)
  rw [get_bang l i (by omega), get_bang l j hj]
  exact List.pairwise_iff_getElem.1 h i j (by omega) hj hij
/-- Two rising lists of the same members are one. -/
theorem rise_ext {a b : List Int} (ha : a.Pairwise (· < ·)) (hb : b.Pairwise (· < ·)) (h : ∀ x, x ∈ a ↔ x ∈ b) : a = b := by
  have na : a.Nodup := ha.imp (fun h => Int.ne_of_lt h)
  have nb : b.Nodup := hb.imp (fun h => Int.ne_of_lt h)
  have hp : a.Perm b := (List.perm_ext_iff_of_nodup na nb).2 h
  exact List.Perm.eq_of_pairwise (le := (· < ·)) (fun x y _ _ h1 h2 => absurd h1 (by omega)) ha hb hp

theorem keepOf_sorted (p : Pol) (live : Int) (rest ys : List Lk) : (keepOf p live rest ys).Pairwise (· < ·) := by
  unfold keepOf
  refine compact_sorted _ ?_
  refine (List.pairwise_mergeSort ?_ ?_ _).imp (fun h => by simpa using h)
  · intro a b c h1 h2; simp at *; omega
  · intro a b; simp; omega
theorem keepOf_mem (p : Pol) (live : Int) (rest ys : List Lk) (x : Int) : x ∈ keepOf p live rest ys ↔ x = 1 ∨ x ∈ pinIds live rest ∨ x ∈ tiersF p ys 4 := by
  unfold keepOf
  rw [compact_mem, (List.mergeSort_perm _ _).mem_iff, idsOf_tiers, List.mem_append, List.mem_cons]
  constructor
  · rintro ((h | h) | h)
    · exact .inl h
    · exact .inr (.inl h)
    · exact .inr (.inr h)
  · rintro (h | h | h)
    · exact .inl (.inl h)
    · exact .inl (.inr h)
    · exact .inr h

def leK (x y : Lk) : Bool := decide (¬ cmpK y x < 0)
theorem cmpI_lt {a b : Int} : cmpI a b < 0 ↔ a < b := by
  unfold cmpI
  split
  · omega
  · split <;> omega
theorem cmpI_eq {a b : Int} : cmpI a b = 0 ↔ a = b := by
  unfold cmpI
  split
  · omega
  · split <;> omega
theorem leK_iff (x y : Lk) : leK x y = true ↔ y.time < x.time ∨ (x.time = y.time ∧ y.id ≤ x.id) := by
  unfold leK cmpK
  rw [decide_eq_true_eq]
  by_cases e : cmpI x.time y.time = 0
  · rw [if_pos e, cmpI_lt]
    have := cmpI_eq.1 e
    omega
  · rw [if_neg e, cmpI_lt]
    have : x.time ≠ y.time := fun h => e (cmpI_eq.2 h)
    omega
theorem leK_trans (a b c : Lk) (h1 : leK a b = true) (h2 : leK b c = true) : leK a c = true := by
  rw [leK_iff] at *
  omega
theorem leK_total (a b : Lk) : (leK a b || leK b a) = true := by
  rw [Bool.or_eq_true, leK_iff, leK_iff]
  omega
theorem leK_id {a b : Lk} (h1 : leK a b = true) (h2 : leK b a = true) : a.id = b.id := by
  rw [leK_iff] at *
  omega
/-- The newest first. -/
def srt (l : List Lk) : List Lk := l.mergeSort leK
theorem srt_perm (l : List Lk) : (srt l).Perm l := List.mergeSort_perm _ _
theorem srt_sorted (l : List Lk) : (srt l).Pairwise (fun a b => leK a b = true) := List.pairwise_mergeSort leK_trans leK_total l
def Lone (l : List Lk) : Prop := ∀ a ∈ l, ∀ b ∈ l, a.id = b.id → a = b
theorem srt_one {l ys : List Lk} (hn : Lone l) (hp : ys.Perm l) (hs : ys.Pairwise (fun a b => leK a b = true)) : ys = srt l := by
  refine List.Perm.eq_of_pairwise (le := fun a b => leK a b = true) (fun a b ha hb h1 h2 => ?_) hs (srt_sorted l) (hp.trans (srt_perm l).symm)
  exact hn a (hp.mem_iff.1 ha) b ((srt_perm l).mem_iff.1 hb) (leK_id h1 h2)
theorem Lone.sub {l l' : List Lk} (h : Lone l) (hs : ∀ x ∈ l', x ∈ l) : Lone l' := fun a ha b hb e => h a (hs a ha) b (hs b hb) e

theorem treeOk_at {l : List Lk} {live next : Int} (h : treeOk l live next = true) : ∀ i, i < l.length → okAt l i (l.getD i zeroLk) = true := by
  unfold treeOk at h
  simp only [Bool.and_eq_true, List.all_eq_true] at h
  exact fun i hi => h.2.2.1 i (List.mem_range.2 hi)
theorem treeOk_rise {l : List Lk} {live next : Int} (h : treeOk l live next = true) : l.Pairwise (fun a b => a.id < b.id) := by
  have hs : ∀ j i, i < j → j < l.length → (l.getD i zeroLk).id < (l.getD j zeroLk).id := by
    intro j
    induction j with
    | zero => intro i hi; omega
    | succ j ih =>
      intro i hi hj
      have hk := treeOk_at h (j + 1) hj
      unfold okAt at hk
      rw [if_neg (by omega)] at hk
      simp only [Bool.and_eq_true, decide_eq_true_eq] at hk
      have h2 : (l.getD j zeroLk).id < (l.getD (j + 1) zeroLk).id := hk.2.2
      by_cases e : i = j
      · subst e; exact h2
      · have := ih i (by omega) (by omega); omega
  rw [List.pairwise_iff_getElem]
  intro i j hi hj hij
  have := hs j i hij hj
  rwa [List.getD_eq_getElem?_getD, List.getD_eq_getElem?_getD, List.getElem?_eq_getElem hi, List.getElem?_eq_getElem hj] at this
theorem rise_lone {l : List Lk} (h : l.Pairwise (fun a b => a.id < b.id)) : Lone l := by
  intro a ha b hb e
  obtain ⟨i, hi, rfl⟩ := List.mem_iff_getElem.1 ha
  obtain ⟨j, hj, rfl⟩ := List.mem_iff_getElem.1 hb
  rw [List.pairwise_iff_getElem] at h
  rcases Nat.lt_trichotomy i j with hlt | rfl | hlt
  · have := h i j hi hj hlt; omega
  · rfl
  · have := h j i hj hi hlt; omega

/-- The nodes that are kept. -/
def keepF (p : Pol) (l : List Lk) (live : Int) : List Int := keepOf p live (l.drop 1) (srt (cand (l.drop 1)))
theorem one_keepF (p : Pol) (l : List Lk) (live : Int) : 1 ∈ keepF p l live := (keepOf_mem ..).2 (.inl rfl)
def KeepOut (p : Pol) (l : List Lk) (live next : Int) (w : World) (e : Ending) (w' : World) : Prop :=
  (if (p.right && treeOk l live next) = true then ∃ v, e = .returned v ∧ Own encI 3 1 w' w.heap.size v (keepF p l live) else e = .returned (.slice none 0 0)) ∧ Ext w w'
theorem KeepPost.out {p : Pol} {l : List Lk} {live next : Int} {w w' : World} {e : Ending} (h : KeepPost p l live next w e w') : KeepOut p l live next w e w' := by
  unfold KeepPost at h
  unfold KeepOut
  refine ⟨?_, h.2⟩
  split
  · rename_i hc
    have h1 := h.1
    rw [if_pos hc] at h1
    obtain ⟨v, ys, rfl, hp, hs, ho⟩ := h1
    have ht : treeOk l live next = true := by simp only [Bool.and_eq_true] at hc; exact hc.2
    have hl : Lone (cand (l.drop 1)) := (rise_lone (treeOk_rise ht)).sub (fun x hx => List.mem_of_mem_drop ((List.mem_filter.1 hx).1))
    have e := srt_one hl hp (hs.imp (fun h => by unfold leK; exact decide_eq_true h))
    subst e
    exact ⟨v, rfl, ho⟩
  · rename_i hc
    have h1 := h.1
    rw [if_neg hc] at h1
    exact h1
/-- What policy.Keep comes to. -/
theorem keep_all (L : LibC) (p : Pol) (A : Option Addr) (c : Nat) (l : List Lk) (live next now : Int) (w : World) (hl : Sl Lk.enc 6 w A l) (hn : l.length ≤ 9223372036854775807) (hlc : l.length ≤ c) (ht : Tabs w) (hs : ∀ x ∈ l, x.name.size ≤ 65536) (htm : ∀ x ∈ l, x.timed) :
    Calls Tryz.prog 12 #[.agg #[.int .i64 p.d, .int .i64 p.w, .int .i64 p.m, .int .i64 p.y], .agg #[.slice A l.length c, .int .i64 live, .int .i64 next, .int .u64 now]] w (KeepOut p l live next w) :=
  (keep_any L p A c l live next now w hl hn hlc ht hs htm).mono fun _ _ h => h.out
end Go.Proofs.YtdnmpkdnfockgaaGreatDoor
