/-
  The plain law of PolicyDaily, joined.
-/
import Derived.Test.YtdnmpkdnfockgaaGreatDoorDailyF
namespace Go.Proofs.YtdnmpkdnfockgaaGreatDoor
open Go.RowKit

def addD (acc : List Int) (x : Lk) : List Int := if dayOf x ∈ acc then acc else acc ++ [dayOf x]
def daysF (l : List Lk) : List Int := l.foldl addD []
theorem fold_days (l : List Lk) : ∀ acc : List Int, acc.Nodup → (l.foldl addD acc).Nodup ∧ ∀ d, d ∈ l.foldl addD acc ↔ d ∈ acc ∨ ∃ x ∈ l, dayOf x = d := by
  induction l with
  | nil => intro acc h; exact ⟨h, fun d => by simp⟩
  | cons y l ih =>
    intro acc h
    rw [List.foldl_cons]
    unfold addD
    split
    · rename_i hm
      obtain ⟨h1, h2⟩ := ih acc h
      refine ⟨h1, fun d => ?_⟩
      rw [show (fun (acc : List Int) (x : Lk) => if dayOf x ∈ acc then acc else acc ++ [dayOf x]) = addD from rfl, h2]
      constructor
      · rintro (hd | ⟨x, hx, he⟩)
        · exact .inl hd
        · exact .inr ⟨x, List.mem_cons_of_mem _ hx, he⟩
      · rintro (hd | ⟨x, hx, he⟩)
        · exact .inl hd
        · rcases List.mem_cons.1 hx with hx | hx
          · left; rw [← he, hx]; exact hm
          · exact .inr ⟨x, hx, he⟩
    · rename_i hm
      obtain ⟨h1, h2⟩ := ih (acc ++ [dayOf y]) (by
        rw [List.nodup_append]
        refine ⟨h, by simp, ?_⟩
        intro a ha b hb
        rw [List.mem_singleton] at hb
        rw [hb]
        intro e
        exact hm (e ▸ ha))
      refine ⟨h1, fun d => ?_⟩
      rw [show (fun (acc : List Int) (x : Lk) => if dayOf x ∈ acc then acc else acc ++ [dayOf x]) = addD from rfl, h2, List.mem_append, List.mem_singleton]
      constructor
      · rintro ((hd | hd) | ⟨x, hx, he⟩)
        · exact .inl hd
        · exact .inr ⟨y, List.mem_cons_self .., hd.symm⟩
        · exact .inr ⟨x, List.mem_cons_of_mem _ hx, he⟩
      · rintro (hd | ⟨x, hx, he⟩)
        · exact .inl (.inl hd)
        · rcases List.mem_cons.1 hx with hx | hx
          · left; right; rw [← he, hx]
          · exact .inr ⟨x, hx, he⟩
theorem nodup_len : ∀ (a b : List Int), a.Nodup → (∀ x ∈ a, x ∈ b) → a.length ≤ b.length := by
  intro a
  induction a with
  | nil => intro b _ _; simp
  | cons x a ih =>
    intro b hn hs
    rw [List.nodup_cons] at hn
    have hx := hs x (List.mem_cons_self ..)
    have h1 := ih (b.erase x) hn.2 (fun y hy => by
      have hne : y ≠ x := fun e => hn.1 (e ▸ hy)
      exact (List.mem_erase_of_ne hne).2 (hs y (List.mem_cons_of_mem _ hy)))
    rw [List.length_erase_of_mem hx] at h1
    have : 0 < b.length := List.length_pos_of_mem hx
    rw [List.length_cons]
    omega

def keptP (keep : List Int) (d : Int) (x : Lk) : Bool := dayOf x == d && (decide (x.id ∈ keep) && !x.pin)
theorem all_same {α : Type} {l : List α} (hn : l.Nodup) (h : ∀ x ∈ l, ∀ y ∈ l, x = y) : l.length ≤ 1 := by
  match l, hn, h with
  | [], _, _ => simp
  | [_], _, _ => simp
  | a :: b :: t, hn, h =>
    exfalso
    rw [List.nodup_cons] at hn
    have := h a (by simp) b (by simp)
    exact hn.1 (by rw [this]; simp)

structure DailyLaw (n : Nat) (rest : List Lk) (keep : List Int) : Prop where
  one : ∀ d, (rest.filter (keptP keep d)).length ≤ 1
  none : ∀ d, n ≤ latD (daysF rest) d → (rest.filter (keptP keep d)).length = 0
  pins : ∀ x ∈ rest, x.pin = true → x.id ∈ keep
  many : manyD (daysF rest) n = min n (daysF rest).length
  len : 1 + manyD (daysF rest) n ≤ keep.length

theorem daily_law {n : Nat} {rest : List Lk} (hr : rest.Pairwise (fun a b => a.id < b.id)) (hid : ∀ x ∈ rest, x.id ≠ 1) (hg : ∀ x ∈ rest, x.ghost = false) : DailyLaw n rest (keepOf ⟨n, 0, 0, 0⟩ 1 rest (srt rest)) := by
  have hlone := rise_lone hr
  have hnd : rest.Nodup := hr.imp (fun h e => by rw [e] at h; omega)
  obtain ⟨hdn, hdm⟩ := fold_days rest [] List.nodup_nil
  change (daysF rest).Nodup at hdn
  change ∀ d, d ∈ daysF rest ↔ _ at hdm
  obtain ⟨hs, hhs⟩ : ∃ hs, heads 0 none (srt rest) = hs := ⟨_, rfl⟩
  have hdesc := (heads0_desc (srt rest) none ((srt_sorted rest).imp (fun {a b} h => by
    rw [leK_iff] at h
    unfold dayOf
    have : b.time ≤ a.time := by omega
    omega)) (fun L hL => by cases hL)).1
  have hcov := heads0_cover (srt rest) none
  rw [hhs] at hdesc hcov
  have hsub : ∀ x ∈ hs, x ∈ rest := fun x hx => (srt_perm rest).mem_iff.1 (heads_mem (hhs ▸ hx))
  have hHn : (hs.map dayOf).Nodup := hdesc.imp (fun h e => by rw [e] at h; omega)
  have hperm : (daysF rest).Perm (hs.map dayOf) := by
    refine (List.perm_ext_iff_of_nodup hdn hHn).2 (fun d => ?_)
    rw [hdm]
    constructor
    · rintro (h | ⟨x, hx, he⟩)
      · cases h
      · rcases hcov x ((srt_perm rest).mem_iff.2 hx) with h | ⟨y, hy, hye⟩
        · cases h
        · exact List.mem_map.2 ⟨y, hy, hye.trans he⟩
    · intro h
      obtain ⟨x, hx, he⟩ := List.mem_map.1 h
      exact .inr ⟨x, hsub x hx, he⟩
  have hmem : ∀ x, x ∈ keepOf ⟨n, 0, 0, 0⟩ 1 rest (srt rest) ↔ x = 1 ∨ x ∈ pinIds 1 rest ∨ x ∈ (hs.map (·.id)).take n := by
    intro x
    rw [keepOf_mem, tiersF_mem]
    have h0 : ∀ t l, latF t 0 l = [] := fun t l => by rw [latF_heads]; simp
    have hz : latF 0 (n : Int) (srt rest) = (hs.map (·.id)).take n := by rw [latF_heads, hhs, Int.toNat_natCast]
    constructor
    · rintro (h | h | ⟨t, ht, h⟩)
      · exact .inl h
      · exact .inr (.inl h)
      · have : t = 0 ∨ t = 1 ∨ t = 2 ∨ t = 3 := by omega
        rcases this with rfl | rfl | rfl | rfl
        · right; right; rw [← hz]; exact h
        · rw [show Pol.nth ⟨n, 0, 0, 0⟩ 1 = 0 from rfl, h0] at h; cases h
        · rw [show Pol.nth ⟨n, 0, 0, 0⟩ 2 = 0 from rfl, h0] at h; cases h
        · rw [show Pol.nth ⟨n, 0, 0, 0⟩ 3 = 0 from rfl, h0] at h; cases h
    · rintro (h | h | h)
      · exact .inl h
      · exact .inr (.inl h)
      · exact .inr (.inr ⟨0, by omega, by rw [← hz] at h; exact h⟩)
  generalize keepOf ⟨n, 0, 0, 0⟩ 1 rest (srt rest) = keep at *
  have hin : ∀ d x, x ∈ rest.filter (keptP keep d) → dayOf x = d ∧ x ∈ hs.take n ∧ x ∈ rest := by
    intro d x hx
    obtain ⟨hx, hp⟩ := List.mem_filter.1 hx
    unfold keptP at hp
    simp only [Bool.and_eq_true, beq_iff_eq, decide_eq_true_eq, Bool.not_eq_true'] at hp
    refine ⟨hp.1, ?_, hx⟩
    rcases (hmem x.id).1 hp.2.1 with h | h | h
    · exact absurd h (hid x hx)
    · exfalso
      unfold pinIds at h
      obtain ⟨y, hy, he⟩ := List.mem_map.1 h
      obtain ⟨hy, hyp⟩ := List.mem_filter.1 hy
      have hyx := hlone y hy x hx he
      subst hyx
      rw [hp.2.2] at hyp
      simp at hyp
      exact hid y hy hyp.2
    · rw [← List.map_take] at h
      obtain ⟨y, hy, he⟩ := List.mem_map.1 h
      rw [hlone y (hsub y (List.mem_of_mem_take hy)) x hx he] at hy
      exact hy
  have hinj : ∀ x ∈ hs, ∀ y ∈ hs, dayOf x = dayOf y → x = y := by
    intro x hx y hy e
    obtain ⟨i, hi, rfl⟩ := List.mem_iff_getElem.1 hx
    obtain ⟨j, hj, rfl⟩ := List.mem_iff_getElem.1 hy
    have hp := List.pairwise_iff_getElem.1 hdesc
    rcases Nat.lt_trichotomy i j with h | h | h
    · have := hp i j (by simpa using hi) (by simpa using hj) h
      rw [List.getElem_map, List.getElem_map] at this
      omega
    · subst h; rfl
    · have := hp j i (by simpa using hj) (by simpa using hi) h
      rw [List.getElem_map, List.getElem_map] at this
      omega
  refine ⟨?_, ?_, ?_, ?_, ?_⟩
  · intro d
    refine all_same (hnd.filter _) (fun x hx y hy => ?_)
    obtain ⟨h1, h2, _⟩ := hin d x hx
    obtain ⟨h3, h4, _⟩ := hin d y hy
    exact hinj x (List.mem_of_mem_take h2) y (List.mem_of_mem_take h4) (h1.trans h3.symm)
  · intro d hle
    rw [List.length_eq_zero_iff]
    rcases hq : rest.filter (keptP keep d) with _ | ⟨x, t⟩
    · rfl
    · exfalso
      obtain ⟨h1, h2, _⟩ := hin d x (by rw [hq]; exact List.mem_cons_self ..)
      obtain ⟨i, hi, he⟩ := List.mem_iff_getElem.1 h2
      rw [List.length_take] at hi
      rw [List.getElem_take] at he
      have h3 := latD_desc (hs.map dayOf) hdesc i (by rw [List.length_map]; omega)
      rw [List.getElem_map, he, h1] at h3
      rw [latD_perm hperm, h3] at hle
      omega
  · intro x hx hp
    rw [hmem]
    refine .inr (.inl ?_)
    unfold pinIds
    exact List.mem_map.2 ⟨x, List.mem_filter.2 ⟨hx, by simp [hg x hx, hp]⟩, rfl⟩
  · rw [manyD_perm hperm, manyD_desc hdesc, hperm.length_eq]
  · rw [manyD_perm hperm, manyD_desc hdesc, List.length_map]
    have hids : (hs.map (·.id)).Nodup := by
      rw [List.Nodup, List.pairwise_map]
      rw [List.pairwise_map] at hdesc
      refine hdesc.imp_of_mem (fun {a b} ha hb h e => ?_)
      rw [hlone a (hsub a ha) b (hsub b hb) e] at h
      omega
    have h := nodup_len (1 :: (hs.map (·.id)).take n) keep (by
      rw [List.nodup_cons]
      refine ⟨fun h => ?_, hids.sublist (List.take_sublist _ _)⟩
      obtain ⟨x, hx, he⟩ := List.mem_map.1 (List.mem_of_mem_take h)
      exact hid x (hsub x hx) he) (fun x hx => by
        rw [hmem]
        rcases List.mem_cons.1 hx with h | h
        · exact .inl h
        · exact .inr (.inr h))
    rw [List.length_cons, List.length_take, List.length_map] at h
    omega
theorem daysF_snoc (l : List Lk) {k : Nat} (hk : k < l.length) : daysF (l.take (k + 1)) = addD (daysF (l.take k)) l[k] := fold_snoc addD [] l k hk
theorem filt_snocI {α : Type} (f : α → Bool) (l : List α) {k : Nat} (hk : k < l.length) : ((l.take (k + 1)).filter f).length = ((l.take k).filter f).length + (if f l[k] = true then 1 else 0) := by
  rw [List.take_succ_eq_append_getElem hk, List.filter_append, List.length_append, List.filter_cons]
  split <;> simp
theorem daysF_len (l : List Lk) : (daysF l).length ≤ l.length := by
  have h : ∀ (l : List Lk) acc, (l.foldl addD acc).length ≤ acc.length + l.length := by
    intro l
    induction l with
    | nil => intro acc; simp
    | cons x l ih =>
      intro acc
      rw [List.foldl_cons, List.length_cons]
      have h1 := ih (addD acc x)
      have h2 : (addD acc x).length ≤ acc.length + 1 := by
        unfold addD
        split
        · omega
        · simp
      omega
  have := h l []
  simpa [daysF] using this
end Go.Proofs.YtdnmpkdnfockgaaGreatDoor
