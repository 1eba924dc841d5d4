/-
  A policy as a text, over plain lists; read again it is that policy.
-/
import Derived.Test.YtdnmpkdnfockgaaGreatDoorPlainD
import Derived.Test.YtdnmpkdnfockgaaGreatDoorRefW
import Derived.Lib.Join
namespace Go.Proofs.YtdnmpkdnfockgaaGreatDoor
open Go.RowKit

def prX (p : Pol) (k : Nat) : ByteArray := lowT.extract k (k + 1) ++ decS (p.nth k)
def prW (p : Pol) : Nat → List ByteArray
  | 0 => []
  | k + 1 => if 0 < p.nth k then prW p k ++ [prX p k] else prW p k
def joinS (l : List ByteArray) : ByteArray := ⟨(Lib.join (dataL l) [32]).toArray⟩
def d0S : ByteArray := ⟨#[100, 48]⟩
def printF (p : Pol) : ByteArray := if p.right = true then (if prW p 4 = [] then d0S else joinS (prW p 4)) else ByteArray.empty
def sR (p : Pol) : Nat → ByteArray
  | 0 => ByteArray.empty
  | k + 1 => if 0 < p.nth k then (if (sR p k).size = 0 then sR p k else sR p k ++ ⟨#[32]⟩) ++ lowT.extract k (k + 1) ++ decS (p.nth k) else sR p k

theorem prX_data {p : Pol} {k : Nat} (hk : k < 4) : (prX p k).data.toList = lowW p k := by
  unfold prX lowW
  rw [ByteArray.data_append, Array.toList_append, lowT_at hk]
  rfl
theorem prX_size {p : Pol} {k : Nat} (hk : k < 4) (hp : p.right = true) : 0 < (prX p k).size ∧ (prX p k).size ≤ 110 := by
  obtain ⟨h0, h1⟩ := nth_lo2 hp k hk
  have := decS_size h0 h1
  constructor
  · rw [Lib.size_eq, prX_data hk]; simp [lowW]
  · unfold prX
    rw [ByteArray.size_append, ByteArray.size_extract]
    omega
theorem prW_mem {p : Pol} : ∀ {k : Nat}, k ≤ 4 → ∀ x ∈ prW p k, ∃ j, j < 4 ∧ x = prX p j
  | 0, _, x, h => by cases h
  | k + 1, hk, x, h => by
    rw [prW] at h
    split at h
    · rcases List.mem_append.1 h with h | h
      · exact prW_mem (by omega) x h
      · exact ⟨k, by omega, List.mem_singleton.1 h⟩
    · exact prW_mem (by omega) x h
theorem prW_len (p : Pol) : ∀ k, (prW p k).length ≤ k
  | 0 => Nat.le_refl _
  | k + 1 => by
    have := prW_len p k
    rw [prW]
    split
    · rw [List.length_append]; simp; omega
    · omega
theorem ba_ext {a b : ByteArray} (h : a.data.toList = b.data.toList) : a = b := by
  rw [← Lib.mk_data a, ← Lib.mk_data b, h]
theorem joinS_data (l : List ByteArray) : (joinS l).data.toList = Lib.join (dataL l) [32] := rfl
theorem joinS_snoc (l : List ByteArray) (x : ByteArray) : joinS (l ++ [x]) = if l = [] then x else joinS l ++ ⟨#[32]⟩ ++ x := by
  cases l with
  | nil =>
    rw [if_pos rfl]
    apply ba_ext
    rw [joinS_data]
    show Lib.join [x.data.toList] [32] = _
    rw [Lib.join_one]
  | cons y ys =>
    rw [if_neg (by simp)]
    apply ba_ext
    rw [ByteArray.data_append, Array.toList_append, ByteArray.data_append, Array.toList_append, joinS_data, joinS_data, dataL_snoc]
    show Lib.join (y.data.toList :: dataL ys ++ [x.data.toList]) [32] = Lib.join (y.data.toList :: dataL ys) [32] ++ [32] ++ x.data.toList
    rw [List.cons_append, Lib.join_cons, Lib.join_cons]
    simp [Lib.joinTail]
theorem sR_join {p : Pol} (hp : p.right = true) : ∀ k, k ≤ 4 → sR p k = joinS (prW p k) ∧ ((sR p k).size = 0 ↔ prW p k = [])
  | 0, _ => ⟨rfl, by simp [sR, prW]⟩
  | k + 1, hk => by
    obtain ⟨h1, h2⟩ := sR_join hp k (by omega)
    by_cases h : 0 < p.nth k
    · have hs := (prX_size (by omega : k < 4) hp).1
      have e : sR p (k + 1) = joinS (prW p k ++ [prX p k]) := by
        rw [sR, if_pos h, joinS_snoc]
        by_cases h0 : prW p k = []
        · rw [if_pos (h2.2 h0), if_pos h0, h1, h0, ByteArray.append_assoc]
          exact ByteArray.empty_append
        · rw [if_neg (fun e => h0 (h2.1 e)), if_neg h0, h1, ByteArray.append_assoc]
          rfl
      rw [prW, if_pos h]
      refine ⟨e, ?_⟩
      rw [e, joinS_snoc]
      constructor
      · intro h0
        exfalso
        split at h0
        · omega
        · rw [ByteArray.size_append] at h0; omega
      · intro h0; simp at h0
    · rw [sR, prW, if_neg h, if_neg h]
      exact ⟨h1, h2⟩
theorem sR_size {p : Pol} (hp : p.right = true) : ∀ k, k ≤ 4 → (sR p k).size ≤ 120 * k
  | 0, _ => Nat.le_refl 0
  | k + 1, hk => by
    have ih := sR_size hp k (by omega)
    obtain ⟨h0, h1⟩ := nth_lo2 hp k (by omega)
    have hd := decS_size h0 h1
    rw [sR]
    split
    · rw [ByteArray.size_append, ByteArray.size_append, ByteArray.size_extract]
      split
      · omega
      · rw [ByteArray.size_append]
        show (sR p k).size + 1 + _ + _ ≤ _
        omega
    · omega
theorem printF_size (p : Pol) : (printF p).size ≤ 480 := by
  unfold printF
  split
  · rename_i hp
    split
    · decide
    · rw [← (sR_join hp 4 (by omega)).1]
      exact sR_size hp 4 (by omega)
  · decide

/-! Read again. -/
theorem words_join : ∀ (l : List (List UInt8)), (∀ x ∈ l, x ≠ [] ∧ (32 : UInt8) ∉ x) → wordsL (Lib.join l [32]) = l
  | [], _ => rfl
  | [x], h => by rw [Lib.join_one, words_last (h x (by simp)).1 (h x (by simp)).2]
  | x :: y :: r, h => by
    have e : Lib.join (x :: y :: r) [32] = x ++ 32 :: Lib.join (y :: r) [32] := by
      rw [Lib.join_cons, Lib.join_cons]
      simp [Lib.joinTail]
    rw [e, words_word (h x (by simp)).1 (h x (by simp)).2, words_join (y :: r) (fun z hz => h z (List.mem_cons_of_mem _ hz))]
def qP (p : Pol) : Nat → Pol
  | 0 => lowP
  | k + 1 => if 0 < p.nth k then (qP p k).put k (p.nth k) else qP p k
theorem qP_nth (p : Pol) : ∀ k, k ≤ 4 → ∀ j, k ≤ j → j < 4 → (qP p k).nth j = -1
  | 0, _, j, _, hj => by
    have : j = 0 ∨ j = 1 ∨ j = 2 ∨ j = 3 := by omega
    rcases this with rfl | rfl | rfl | rfl <;> rfl
  | k + 1, hk, j, h1, h2 => by
    have ih := qP_nth p k (by omega) j (by omega) h2
    rw [qP]
    split
    · rw [put_nth _ _ _ _ (by omega) h2, if_neg (by omega), ih]
    · exact ih
theorem fold_prW {p : Pol} (hp : p.right = true) : ∀ k, k ≤ 4 → (dataL (prW p k)).foldl stepR (some lowP) = some (qP p k)
  | 0, _ => rfl
  | k + 1, hk => by
    have ih := fold_prW hp k (by omega)
    obtain ⟨h0, h1⟩ := nth_lo2 hp k (by omega)
    rw [prW, qP]
    split
    · rw [dataL_snoc, List.foldl_append, ih, prX_data (by omega)]
      show stepR (some (qP p k)) (lowW p k) = _
      unfold lowW
      exact step_word (tier_low (by omega)) h0 h1 (by rw [qP_nth p k (by omega) k (Nat.le_refl _) (by omega)]; decide)
    · exact ih
theorem qP_pos {p : Pol} (hp : p.right = true) : (qP p 4).pos = p := by
  have a0 := (nth_lo2 hp 0 (by omega)).1
  have a1 := (nth_lo2 hp 1 (by omega)).1
  have a2 := (nth_lo2 hp 2 (by omega)).1
  have a3 := (nth_lo2 hp 3 (by omega)).1
  obtain ⟨a, b, c, d⟩ := p
  replace a0 : 0 ≤ a := a0
  replace a1 : 0 ≤ b := a1
  replace a2 : 0 ≤ c := a2
  replace a3 : 0 ≤ d := a3
  have ha : a = 0 ∨ 0 < a := by omega
  have hb : b = 0 ∨ 0 < b := by omega
  have hc : c = 0 ∨ 0 < c := by omega
  have hd : d = 0 ∨ 0 < d := by omega
  rcases ha with rfl | ha <;> rcases hb with rfl | hb <;> rcases hc with rfl | hc <;> rcases hd with rfl | hd <;> simp [qP, Pol.nth, Pol.put, Pol.pos, lowP, *] <;> omega
theorem prW_none {p : Pol} (hp : p.right = true) (h : prW p 4 = []) : p = ⟨0, 0, 0, 0⟩ := by
  have h1 := fold_prW hp 4 (by omega)
  rw [h] at h1
  injection h1 with h1
  rw [← qP_pos hp, ← h1]
  rfl
theorem print_back {p : Pol} (hp : p.right = true) : parseR (printF p).data.toList = some p := by
  unfold printF
  rw [if_pos hp]
  split
  · rename_i h
    rw [prW_none hp h]
    rfl
  · rw [joinS_data]
    unfold parseR
    rw [words_join, fold_prW hp 4 (by omega), Option.map_some, qP_pos hp]
    intro x hx
    obtain ⟨y, hy, rfl⟩ := List.mem_map.1 hx
    obtain ⟨j, hj, rfl⟩ := prW_mem (by omega) y hy
    rw [prX_data hj]
    exact low_word p j
theorem print_wrong {p : Pol} (hp : p.right = false) : printF p = ByteArray.empty := by
  unfold printF
  rw [if_neg (by rw [hp]; decide)]
def okQ (q : Pol) : Prop := ∀ k, k < 4 → -1 ≤ q.nth k ∧ q.nth k ≤ 1000
theorem okQ_step {a b : Option Pol} {x : List UInt8} (h : ∀ q, a = some q → okQ q) (e : stepR a x = b) : ∀ q, b = some q → okQ q := by
  intro q hq
  subst e
  cases a with
  | none => cases hq
  | some r =>
    cases x with
    | nil => exact h q hq
    | cons c ds =>
      rw [stepR] at hq
      split at hq
      · cases hq
      · rename_i hn
        injection hq with hq
        subst hq
        have hlt := tierR_lt c
        obtain ⟨t, ht⟩ : ∃ t : Nat, tierR c = t := ⟨(tierR c).toNat, by omega⟩
        intro k hk
        have hr := h r rfl k hk
        rw [ht, put_nth _ _ _ _ (by omega) hk]
        split
        · exact ⟨num_ge ds, num_le ds⟩
        · exact hr
theorem okQ_fold (l : List (List UInt8)) : ∀ {a : Option Pol}, (∀ q, a = some q → okQ q) → ∀ q, l.foldl stepR a = some q → okQ q := by
  induction l with
  | nil => intro a h; exact h
  | cons x l ih => intro a h; exact ih (okQ_step h rfl)
theorem parse_right {l : List UInt8} {p : Pol} (h : parseR l = some p) : p.right = true := by
  unfold parseR at h
  obtain ⟨q, hq, rfl⟩ := Option.map_eq_some_iff.1 h
  have hk := okQ_fold (wordsL l) (a := some lowP) (fun q e k hk => by
    injection e with e
    subst e
    have : k = 0 ∨ k = 1 ∨ k = 2 ∨ k = 3 := by omega
    rcases this with rfl | rfl | rfl | rfl <;> decide) q hq
  have h0 := hk 0 (by omega)
  have h1 := hk 1 (by omega)
  have h2 := hk 2 (by omega)
  have h3 := hk 3 (by omega)
  replace h0 : -1 ≤ q.d ∧ q.d ≤ 1000 := h0
  replace h1 : -1 ≤ q.w ∧ q.w ≤ 1000 := h1
  replace h2 : -1 ≤ q.m ∧ q.m ≤ 1000 := h2
  replace h3 : -1 ≤ q.y ∧ q.y ≤ 1000 := h3
  unfold Pol.right Pol.pos okN
  simp only [Bool.and_eq_true, decide_eq_true_eq]
  omega
end Go.Proofs.YtdnmpkdnfockgaaGreatDoor
