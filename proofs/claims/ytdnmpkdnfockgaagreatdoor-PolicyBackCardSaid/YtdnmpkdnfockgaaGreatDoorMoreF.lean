/-
  The plain law of PolicyMore: greater numbers keep no fewer; what is kept is kept again when the others are gone.
-/
import Derived.Test.YtdnmpkdnfockgaaGreatDoorDrops
namespace Go.Proofs.YtdnmpkdnfockgaaGreatDoor
open Go.RowKit

/-- The first of each run of one bucket. -/
def heads (tier : Int) : Option Int → List Lk → List Lk
  | _, [] => []
  | last, x :: l => if last = some (bucketF tier x.time) then heads tier last l else x :: heads tier (some (bucketF tier x.time)) l
theorem fold_heads (tier : Int) (many : Int) (l : List Lk) : ∀ (last : Option Int) (acc : List Int),
    (l.foldl (lstep tier many) (last, acc)).2 = acc ++ ((heads tier last l).map (·.id)).take (many.toNat - acc.length) := by
  induction l with
  | nil => intro last acc; simp [heads]
  | cons x l ih =>
    intro last acc
    rw [List.foldl_cons]
    by_cases h : last = some (bucketF tier x.time)
    · have hs : lstep tier many (last, acc) x = (last, acc) := by unfold lstep; rw [if_pos h]
      rw [hs, heads, if_pos h]
      exact ih last acc
    · have hs : lstep tier many (last, acc) x = (some (bucketF tier x.time), if (acc.length : Int) < many then acc ++ [x.id] else acc) := by unfold lstep; rw [if_neg h]
      rw [hs, heads, if_neg h, ih]
      by_cases hm : (acc.length : Int) < many
      · rw [if_pos hm]
        have : many.toNat - acc.length = (many.toNat - (acc ++ [x.id]).length) + 1 := by rw [List.length_append]; simp; omega
        rw [this, List.map_cons, List.take_succ_cons]
        simp
      · rw [if_neg hm]
        have : many.toNat - acc.length = 0 := by omega
        rw [this]
        simp
theorem latF_heads (tier many : Int) (l : List Lk) : latF tier many l = ((heads tier none l).map (·.id)).take many.toNat := by
  unfold latF
  rw [fold_heads]
  simp
theorem heads_mem {tier : Int} {l : List Lk} : ∀ {last : Option Int} {x : Lk}, x ∈ heads tier last l → x ∈ l := by
  induction l with
  | nil => intro last x h; simp [heads] at h
  | cons y l ih =>
    intro last x h
    unfold heads at h
    split at h
    · exact List.mem_cons_of_mem _ (ih h)
    · rcases List.mem_cons.1 h with h | h
      · rw [h]; exact List.mem_cons_self ..
      · exact List.mem_cons_of_mem _ (ih h)
/-- Where the first so many heads pass, they are the first heads of what passes. -/
theorem heads_filter (tier : Int) (K : Lk → Bool) (l : List Lk) : ∀ (n : Nat) (last : Option Int), (∀ x ∈ (heads tier last l).take n, K x = true) → (heads tier last (l.filter K)).take n = (heads tier last l).take n := by
  induction l with
  | nil => intro n last _; rfl
  | cons x l ih =>
    intro n last h
    unfold heads at h
    by_cases hb : last = some (bucketF tier x.time)
    · rw [if_pos hb] at h
      have h2 : heads tier last (x :: l) = heads tier last l := by rw [heads, if_pos hb]
      rw [h2, List.filter_cons]
      split
      · rw [heads, if_pos hb]; exact ih n last h
      · exact ih n last h
    · rw [if_neg hb] at h
      cases n with
      | zero => simp
      | succ n =>
        rw [List.take_succ_cons] at h
        have hx := h x (List.mem_cons_self ..)
        rw [List.filter_cons, if_pos hx, heads, if_neg hb, heads, if_neg hb, List.take_succ_cons, List.take_succ_cons]
        congr 1
        exact ih n _ (fun y hy => h y (List.mem_cons_of_mem _ hy))
theorem heads_map (tier : Int) (f : Lk → Lk) (hf : ∀ x, (f x).time = x.time) (l : List Lk) : ∀ last, heads tier last (l.map f) = (heads tier last l).map f := by
  induction l with
  | nil => intro last; rfl
  | cons x l ih =>
    intro last
    rw [List.map_cons, heads, heads, hf]
    split
    · exact ih last
    · rw [List.map_cons, ih]
theorem take_sub {α : Type} {l : List α} {a b : Nat} (h : a ≤ b) {x : α} (hx : x ∈ l.take a) : x ∈ l.take b := by
  have : l.take a = (l.take b).take a := by rw [List.take_take, Nat.min_eq_left h]
  rw [this] at hx
  exact List.mem_of_mem_take hx
theorem latF_mono {tier a b : Int} {l : List Lk} (h : a ≤ b) {x : Int} (hx : x ∈ latF tier a l) : x ∈ latF tier b l := by
  rw [latF_heads] at *
  exact take_sub (by omega) hx
theorem tiersF_mem {p : Pol} {ys : List Lk} {x : Int} (n : Nat) : x ∈ tiersF p ys n ↔ ∃ t, t < n ∧ x ∈ latF ((t : Nat) : Int) (p.nth t) ys := by
  unfold tiersF
  rw [List.mem_flatMap]
  constructor
  · rintro ⟨t, ht, h⟩; exact ⟨t, List.mem_range.1 ht, h⟩
  · rintro ⟨t, ht, h⟩; exact ⟨t, List.mem_range.2 ht, h⟩

theorem keepF_mono {p q : Pol} (h : ∀ t, t < 4 → p.nth t ≤ q.nth t) (l : List Lk) (live : Int) {x : Int} (hx : x ∈ keepF p l live) : x ∈ keepF q l live := by
  unfold keepF at *
  rw [keepOf_mem] at *
  rcases hx with hx | hx | hx
  · exact .inl hx
  · exact .inr (.inl hx)
  · refine .inr (.inr ?_)
    rw [tiersF_mem] at *
    obtain ⟨t, ht, h2⟩ := hx
    exact ⟨t, ht, latF_mono (h t ht) h2⟩

/-! ### What is left -/
def re (x : Lk) : Lk := { x with parent := 1 }
def mk (i : Nat) (x : Lk) : Lk := { x with parent := min 1 (i : Int) }
def inK (keep : List Int) (x : Lk) : Bool := decide (x.id ∈ keep)
def leftF (keep : List Int) (l : List Lk) : List Lk := (l.mapIdx mk).filter (inK keep)
theorem leftF_snoc (keep : List Int) (l : List Lk) {k : Nat} (hk : k < l.length) : leftF keep (l.take (k + 1)) = leftF keep (l.take k) ++ (if l[k].id ∈ keep then [mk k l[k]] else []) := by
  unfold leftF
  rw [List.take_succ_eq_append_getElem hk, List.mapIdx_append, List.filter_append, List.length_take, Nat.min_eq_left (by omega)]
  congr 1
  by_cases h : l[k].id ∈ keep
  · rw [if_pos h]; simp [inK, mk, h]
  · rw [if_neg h]; simp [inK, mk, h]
theorem leftF_len (keep : List Int) (l : List Lk) : (leftF keep l).length ≤ l.length := by
  unfold leftF
  exact Nat.le_trans (List.length_filter_le _ _) (by rw [List.length_mapIdx]; exact Nat.le_refl _)
theorem mapIdx_re (l : List Lk) : l.mapIdx (fun i => mk (i + 1)) = l.map re := by
  apply List.ext_getElem?
  intro i
  rw [List.getElem?_mapIdx, List.getElem?_map]
  cases l[i]? with
  | none => rfl
  | some x =>
    simp only [Option.map_some, Option.some.injEq]
    unfold mk re
    congr 1
    omega
theorem leftF_cons {keep : List Int} {r : Lk} {rest : List Lk} (hr : r.id ∈ keep) : leftF keep (r :: rest) = mk 0 r :: (rest.filter (inK keep)).map re := by
  unfold leftF
  rw [List.mapIdx_cons, List.filter_cons, if_pos (by simp [inK, mk, hr]), mapIdx_re, List.filter_map]
  rfl
theorem leK_re (a b : Lk) : leK (re a) (re b) = leK a b := rfl
theorem srt_left {l : List Lk} (hl : Lone l) (K : Lk → Bool) : srt ((l.filter K).map re) = ((srt l).filter K).map re := by
  symm
  refine srt_one ?_ (((srt_perm l).filter K).map re) ?_
  · intro a ha b hb e
    obtain ⟨x, hx, rfl⟩ := List.mem_map.1 ha
    obtain ⟨y, hy, rfl⟩ := List.mem_map.1 hb
    rw [hl x (List.mem_filter.1 hx).1 y (List.mem_filter.1 hy).1 e]
  · rw [List.pairwise_map]
    exact ((srt_sorted l).filter K).imp (fun h => h)
theorem cand_left {l : List Lk} (hg : ∀ x ∈ l, x.ghost = false) : cand l = l := by
  unfold cand
  rw [List.filter_eq_self]
  intro x hx
  rw [hg x hx]; rfl
theorem latF_left {tier many : Int} {ys : List Lk} {K : Lk → Bool} (h : ∀ x ∈ (heads tier none ys).take many.toNat, K x = true) : latF tier many ((ys.filter K).map re) = latF tier many ys := by
  rw [latF_heads, latF_heads, heads_map tier re (fun _ => rfl), ← List.map_take, ← List.map_take, ← List.map_take, heads_filter tier K ys many.toNat none h, List.map_map]
  rfl

/-- What is kept is kept again when the others are gone. -/
theorem keep_left {p : Pol} {r : Lk} {rest : List Lk} {live : Int} (hlone : Lone rest) (hg : ∀ x ∈ rest, x.ghost = false) (hr : r.id = 1) :
    keepF p (leftF (keepF p (r :: rest) live) (r :: rest)) live = keepF p (r :: rest) live := by
  have h1 := one_keepF p (r :: rest) live
  rw [leftF_cons (by rw [hr]; exact h1)]
  obtain ⟨kp, hkp⟩ : ∃ kp, keepF p (r :: rest) live = kp := ⟨_, rfl⟩
  have hmem : ∀ x, x ∈ kp ↔ x = 1 ∨ x ∈ pinIds live rest ∨ x ∈ tiersF p (srt rest) 4 := by
    intro x
    rw [← hkp]
    unfold keepF
    rw [keepOf_mem, List.drop_succ_cons, List.drop_zero, cand_left hg]
  rw [hkp]
  have hsorted : kp.Pairwise (· < ·) := by rw [← hkp]; exact keepOf_sorted ..
  have hgl : ∀ x ∈ (rest.filter (inK kp)).map re, x.ghost = false := by
    intro x hx
    obtain ⟨y, hy, rfl⟩ := List.mem_map.1 hx
    exact hg y (List.mem_filter.1 hy).1
  unfold keepF
  rw [List.drop_succ_cons, List.drop_zero, cand_left hgl, srt_left hlone]
  refine rise_ext (keepOf_sorted ..) hsorted (fun x => ?_)
  rw [keepOf_mem, hmem]
  have hp : x ∈ pinIds live ((rest.filter (inK kp)).map re) ↔ x ∈ pinIds live rest := by
    unfold pinIds
    simp only [List.mem_map, List.mem_filter]
    constructor
    · rintro ⟨a, ⟨⟨b, ⟨hb, _⟩, rfl⟩, h2⟩, rfl⟩
      exact ⟨b, ⟨hb, h2⟩, rfl⟩
    · rintro ⟨b, ⟨hb, h2⟩, rfl⟩
      refine ⟨re b, ⟨⟨b, ⟨hb, ?_⟩, rfl⟩, h2⟩, rfl⟩
      unfold inK
      rw [decide_eq_true_eq, hmem]
      refine .inr (.inl ?_)
      unfold pinIds
      exact List.mem_map.2 ⟨b, List.mem_filter.2 ⟨hb, h2⟩, rfl⟩
  have ht : ∀ t, t < 4 → latF ((t : Nat) : Int) (p.nth t) (((srt rest).filter (inK kp)).map re) = latF ((t : Nat) : Int) (p.nth t) (srt rest) := by
    intro t ht
    refine latF_left (fun y hy => ?_)
    unfold inK
    rw [decide_eq_true_eq, hmem]
    refine .inr (.inr ?_)
    rw [tiersF_mem]
    refine ⟨t, ht, ?_⟩
    rw [latF_heads, ← List.map_take]
    exact List.mem_map.2 ⟨y, hy, rfl⟩
  rw [hp, tiersF_mem, tiersF_mem]
  constructor
  · rintro (h | h | ⟨t, ht', h⟩)
    · exact .inl h
    · exact .inr (.inl h)
    · exact .inr (.inr ⟨t, ht', by rw [ht t ht'] at h; exact h⟩)
  · rintro (h | h | ⟨t, ht', h⟩)
    · exact .inl h
    · exact .inr (.inl h)
    · exact .inr (.inr ⟨t, ht', by rw [ht t ht']; exact h⟩)
/-- Then none is dropped. -/
theorem drops_left {p : Pol} {kp : List Int} {l : List Lk} {live : Int} (h : keepF p (leftF kp l) live = kp) : dropsF p (leftF kp l) live = [] := by
  unfold dropsF
  rw [h, List.map_eq_nil_iff, List.filter_eq_nil_iff]
  intro x hx
  have := (List.mem_filter.1 hx).2
  unfold inK at this
  unfold dropP
  simp at this ⊢
  intro _
  exact this
end Go.Proofs.YtdnmpkdnfockgaaGreatDoor
