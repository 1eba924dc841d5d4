/-
  The plain law of PolicyDaily.
-/
import Derived.Test.YtdnmpkdnfockgaaGreatDoorMoreF
namespace Go.Proofs.YtdnmpkdnfockgaaGreatDoor
open Go.RowKit

def dayOf (x : Lk) : Int := x.time / 86400
theorem bucket0 (t : Int) : bucketF 0 t = t / 86400 := by unfold bucketF bktD; rw [if_pos rfl]
theorem heads0_desc : ∀ (ys : List Lk) (last : Option Int), ys.Pairwise (fun a b => dayOf b ≤ dayOf a) → (∀ L, last = some L → ∀ x ∈ ys, dayOf x ≤ L) →
    ((heads 0 last ys).map dayOf).Pairwise (fun a b => b < a) ∧ ∀ L, last = some L → ∀ x ∈ heads 0 last ys, dayOf x < L := by
  intro ys
  induction ys with
  | nil => intro last _ _; exact ⟨List.Pairwise.nil, fun L _ x hx => by cases hx⟩
  | cons y l ih =>
    intro last hs hl
    rw [List.pairwise_cons] at hs
    have hb : bucketF 0 y.time = dayOf y := bucket0 _
    unfold heads
    rw [hb]
    by_cases e : last = some (dayOf y)
    · rw [if_pos e]
      exact ih last hs.2 (fun L hL x hx => hl L hL x (List.mem_cons_of_mem _ hx))
    · rw [if_neg e]
      obtain ⟨h1, h2⟩ := ih (some (dayOf y)) hs.2 (fun L hL x hx => by injection hL with hL; rw [← hL]; exact hs.1 x hx)
      refine ⟨?_, ?_⟩
      · rw [List.map_cons, List.pairwise_cons]
        refine ⟨fun d hd => ?_, h1⟩
        obtain ⟨x, hx, rfl⟩ := List.mem_map.1 hd
        exact h2 _ rfl x hx
      · intro L hL x hx
        have hy : dayOf y < L := by
          have := hl L hL y (List.mem_cons_self ..)
          have hne : L ≠ dayOf y := fun h => e (by rw [hL, h])
          omega
        rcases List.mem_cons.1 hx with hx | hx
        · rw [hx]; exact hy
        · have := h2 _ rfl x hx; omega
theorem heads0_cover : ∀ (ys : List Lk) (last : Option Int), ∀ x ∈ ys, last = some (dayOf x) ∨ ∃ h ∈ heads 0 last ys, dayOf h = dayOf x := by
  intro ys
  induction ys with
  | nil => intro last x hx; cases hx
  | cons y l ih =>
    intro last x hx
    have hb : bucketF 0 y.time = dayOf y := bucket0 _
    unfold heads
    rw [hb]
    by_cases e : last = some (dayOf y)
    · rw [if_pos e]
      rcases List.mem_cons.1 hx with hx | hx
      · left; rw [hx]; exact e
      · exact ih last x hx
    · rw [if_neg e]
      right
      rcases List.mem_cons.1 hx with hx | hx
      · exact ⟨y, List.mem_cons_self .., by rw [hx]⟩
      · rcases ih (some (dayOf y)) x hx with h | ⟨h, hh, he⟩
        · injection h with h
          exact ⟨y, List.mem_cons_self .., h⟩
        · exact ⟨h, List.mem_cons_of_mem _ hh, he⟩

/-- How many of the days are later. -/
def latD (days : List Int) (d : Int) : Nat := (days.filter (fun e => decide (d < e))).length
theorem latD_desc : ∀ (H : List Int), H.Pairwise (fun a b => b < a) → ∀ i (h : i < H.length), latD H H[i] = i := by
  intro H
  induction H with
  | nil => intro _ i h; simp at h
  | cons a t ih =>
    intro hp i h
    rw [List.pairwise_cons] at hp
    unfold latD
    cases i with
    | zero =>
      rw [List.length_eq_zero_iff, List.filter_eq_nil_iff]
      intro x hx
      rcases List.mem_cons.1 hx with hx | hx
      · rw [hx]; simp
      · have := hp.1 x hx; simp; omega
    | succ i =>
      have hi : i < t.length := by simpa using h
      have h1 := hp.1 t[i] (List.getElem_mem hi)
      rw [List.getElem_cons_succ, List.filter_cons, if_pos (by simpa using h1), List.length_cons]
      have := ih hp.2 i hi
      unfold latD at this
      rw [this]
theorem latD_perm {a b : List Int} (h : a.Perm b) (d : Int) : latD a d = latD b d := (h.filter _).length_eq
theorem filter_take {α : Type} (p : α → Bool) : ∀ (l : List α) (n k : Nat), (∀ i (h : i < l.length), p l[i] = decide (i + k < n)) → l.filter p = l.take (n - k) := by
  intro l
  induction l with
  | nil => intro n k _; simp
  | cons a t ih =>
    intro n k h
    have h0 := h 0 (by simp)
    have ht := ih n (k + 1) (fun i hi => by
      have := h (i + 1) (by simpa using hi)
      rw [List.getElem_cons_succ] at this
      rw [this]
      congr 1
      simp only [eq_iff_iff]
      omega)
    rw [List.getElem_cons_zero, Nat.zero_add] at h0
    by_cases e : k < n
    · rw [List.filter_cons, if_pos (by rw [h0]; exact decide_eq_true e), ht, show n - k = (n - (k + 1)) + 1 by omega, List.take_succ_cons]
    · rw [List.filter_cons, if_neg (by rw [h0]; simp; omega), ht, show n - k = 0 by omega, show n - (k + 1) = 0 by omega]
      simp
/-- Of the days those that so few are later than: so many. -/
def manyD (days : List Int) (n : Nat) : Nat := (days.filter (fun d => decide (latD days d < n))).length
theorem manyD_desc {H : List Int} (h : H.Pairwise (fun a b => b < a)) (n : Nat) : manyD H n = min n H.length := by
  unfold manyD
  rw [filter_take _ H n 0 (fun i hi => by rw [latD_desc H h i hi]; rfl), List.length_take]
  rfl
theorem manyD_perm {a b : List Int} (h : a.Perm b) (n : Nat) : manyD a n = manyD b n := by
  unfold manyD
  have : (fun d => decide (latD a d < n)) = (fun d => decide (latD b d < n)) := by funext d; rw [latD_perm h]
  rw [this]
  exact (h.filter _).length_eq
end Go.Proofs.YtdnmpkdnfockgaaGreatDoor
