/-
  The plain law of PolicyNames: what Parse makes of the two texts, and of their sum.
-/
import Derived.Test.YtdnmpkdnfockgaaGreatDoorNames
import Derived.Test.YtdnmpkdnfockgaaGreatDoorPlainW
namespace Go.Proofs.YtdnmpkdnfockgaaGreatDoor
open Go.RowKit

def capB : Nat → UInt8 | 0 => 68 | 1 => 87 | 2 => 77 | _ => 89
theorem capT_at {k : Nat} (h : k < 4) : (capT.extract k (k + 1)).data.toList = [capB k] := by
  have : k = 0 ∨ k = 1 ∨ k = 2 ∨ k = 3 := by omega
  rcases this with rfl | rfl | rfl | rfl <;> decide
def capW (p : Pol) (k : Nat) : List UInt8 := capB k :: Lib.decDigits (p.nth k).toNat
theorem sF_step (p : Pol) (f i : Nat) : (sF p f (i + 1)).data.toList = (sF p f i).data.toList ++ 32 :: 32 :: lowW p ((f + i) % 4) := by
  rw [sF, ByteArray.data_append, Array.toList_append, ByteArray.data_append, Array.toList_append, ByteArray.data_append, Array.toList_append, lowT_at (Nat.mod_lt _ (by decide))]
  simp [lowW, decS]
theorem tF_step (p : Pol) (f i : Nat) : (tF p f (i + 1)).data.toList = (tF p f i).data.toList ++ (capW p ((f + i) % 4) ++ [32]) := by
  rw [tF, ByteArray.data_append, Array.toList_append, ByteArray.data_append, Array.toList_append, ByteArray.data_append, Array.toList_append, capT_at (Nat.mod_lt _ (by decide))]
  simp [capW, decS]
theorem cap_word (p : Pol) (k : Nat) : capW p k ≠ [] ∧ (32 : UInt8) ∉ capW p k := by
  refine ⟨by simp [capW], ?_⟩
  unfold capW
  intro h
  rcases List.mem_cons.1 h with h | h
  · revert h; unfold capB; split <;> decide
  · exact dec_noblank _ h
theorem low_tier {k : Nat} (h : k < 4) : tierR (lowB k) = k ∧ tierR (capB k) = k ∧ 57 < (capB k).toNat := by
  have : k = 0 ∨ k = 1 ∨ k = 2 ∨ k = 3 := by omega
  rcases this with rfl | rfl | rfl | rfl <;> decide
theorem fold4 {p : Pol} (hp : p.right = true) {f : Nat} (hf : f ≤ 3) {g : Nat → List UInt8} {c : Nat → UInt8} (hg : ∀ k, k < 4 → g k = c k :: Lib.decDigits (p.nth k).toNat ∧ tierR (c k) = k) :
    ∃ q, stepR (stepR (stepR (some lowP) (g (f % 4))) (g ((f + 1) % 4))) (g ((f + 2) % 4)) = some q ∧ ∃ r, stepR (some q) (g ((f + 3) % 4)) = some r ∧ r.pos = p := by
  obtain ⟨g0, t0⟩ := hg 0 (by omega)
  obtain ⟨g1, t1⟩ := hg 1 (by omega)
  obtain ⟨g2, t2⟩ := hg 2 (by omega)
  obtain ⟨g3, t3⟩ := hg 3 (by omega)
  obtain ⟨d0, e0⟩ := nth_lo2 hp 0 (by omega)
  obtain ⟨d1, e1⟩ := nth_lo2 hp 1 (by omega)
  obtain ⟨d2, e2⟩ := nth_lo2 hp 2 (by omega)
  obtain ⟨d3, e3⟩ := nth_lo2 hp 3 (by omega)
  have s0 := fun (q : Pol) (h : q.nth 0 < 0) => step_word (q := q) t0 d0 e0 h
  have s1 := fun (q : Pol) (h : q.nth 1 < 0) => step_word (q := q) t1 d1 e1 h
  have s2 := fun (q : Pol) (h : q.nth 2 < 0) => step_word (q := q) t2 d2 e2 h
  have s3 := fun (q : Pol) (h : q.nth 3 < 0) => step_word (q := q) t3 d3 e3 h
  rw [← g0] at s0
  rw [← g1] at s1
  rw [← g2] at s2
  rw [← g3] at s3
  have m : ∀ n : Int, 0 ≤ n → max n 0 = n := fun n h => Int.max_eq_left h
  have : f = 0 ∨ f = 1 ∨ f = 2 ∨ f = 3 := by omega
  rcases this with rfl | rfl | rfl | rfl
  · refine ⟨_, by rw [show 0 % 4 = 0 from rfl, show (0 + 1) % 4 = 1 from rfl, show (0 + 2) % 4 = 2 from rfl, s0 _ (by decide), s1 _ (by show (-1 : Int) < 0; decide), s2 _ (by show (-1 : Int) < 0; decide)], _, s3 _ (by show (-1 : Int) < 0; decide), ?_⟩
    show Pol.mk (max (p.nth 0) 0) (max (p.nth 1) 0) (max (p.nth 2) 0) (max (p.nth 3) 0) = p
    rw [m _ d0, m _ d1, m _ d2, m _ d3]; rfl
  · refine ⟨_, by rw [show 1 % 4 = 1 from rfl, show (1 + 1) % 4 = 2 from rfl, show (1 + 2) % 4 = 3 from rfl, s1 _ (by decide), s2 _ (by show (-1 : Int) < 0; decide), s3 _ (by show (-1 : Int) < 0; decide)], _, s0 _ (by show (-1 : Int) < 0; decide), ?_⟩
    show Pol.mk (max (p.nth 0) 0) (max (p.nth 1) 0) (max (p.nth 2) 0) (max (p.nth 3) 0) = p
    rw [m _ d0, m _ d1, m _ d2, m _ d3]; rfl
  · refine ⟨_, by rw [show 2 % 4 = 2 from rfl, show (2 + 1) % 4 = 3 from rfl, show (2 + 2) % 4 = 0 from rfl, s2 _ (by decide), s3 _ (by show (-1 : Int) < 0; decide), s0 _ (by show (-1 : Int) < 0; decide)], _, s1 _ (by show (-1 : Int) < 0; decide), ?_⟩
    show Pol.mk (max (p.nth 0) 0) (max (p.nth 1) 0) (max (p.nth 2) 0) (max (p.nth 3) 0) = p
    rw [m _ d0, m _ d1, m _ d2, m _ d3]; rfl
  · refine ⟨_, by rw [show 3 % 4 = 3 from rfl, show (3 + 1) % 4 = 0 from rfl, show (3 + 2) % 4 = 1 from rfl, s3 _ (by decide), s0 _ (by show (-1 : Int) < 0; decide), s1 _ (by show (-1 : Int) < 0; decide)], _, s2 _ (by show (-1 : Int) < 0; decide), ?_⟩
    show Pol.mk (max (p.nth 0) 0) (max (p.nth 1) 0) (max (p.nth 2) 0) (max (p.nth 3) 0) = p
    rw [m _ d0, m _ d1, m _ d2, m _ d3]; rfl
theorem names_law (p : Pol) (hp : p.right = true) (f : Nat) (hf : f ≤ 3) : parseF (sF p f 4) = some p ∧ parseF (tF p f 4) = some p ∧ parseF (sF p f 4 ++ tF p f 4) = none := by
  have hs : (sF p f 4).data.toList = 32 :: 32 :: (lowW p (f % 4) ++ 32 :: 32 :: (lowW p ((f + 1) % 4) ++ 32 :: 32 :: (lowW p ((f + 2) % 4) ++ 32 :: 32 :: lowW p ((f + 3) % 4)))) := by
    rw [sF_step, sF_step, sF_step, sF_step]
    simp [sF]
  have ht : (tF p f 4).data.toList = capW p (f % 4) ++ 32 :: (capW p ((f + 1) % 4) ++ 32 :: (capW p ((f + 2) % 4) ++ 32 :: (capW p ((f + 3) % 4) ++ 32 :: []))) := by
    rw [tF_step, tF_step, tF_step, tF_step]
    simp [tF]
  have wl := fun k => low_word p k
  have wc := fun k => cap_word p k
  have hlow := fold4 hp hf (g := lowW p) (c := lowB) (fun k hk => ⟨rfl, (low_tier hk).1⟩)
  have hcap := fold4 hp hf (g := capW p) (c := capB) (fun k hk => ⟨rfl, (low_tier hk).2.1⟩)
  refine ⟨?_, ?_, ?_⟩
  · obtain ⟨q, h1, r, h2, h3⟩ := hlow
    rw [parse_R, hs]
    unfold parseR
    rw [words_blank, words_blank, words_word (wl _).1 (wl _).2, words_blank, words_word (wl _).1 (wl _).2, words_blank, words_word (wl _).1 (wl _).2, words_blank, words_last (wl _).1 (wl _).2]
    simp only [List.foldl_cons, List.foldl_nil]
    rw [h1, h2, Option.map_some, h3]
  · obtain ⟨q, h1, r, h2, h3⟩ := hcap
    rw [parse_R, ht]
    unfold parseR
    rw [words_word (wc _).1 (wc _).2, words_word (wc _).1 (wc _).2, words_word (wc _).1 (wc _).2, words_word (wc _).1 (wc _).2, words_nil]
    simp only [List.foldl_cons, List.foldl_nil]
    rw [h1, h2, Option.map_some, h3]
  · obtain ⟨q, h1, r, h2, h3⟩ := hlow
    rw [parse_R, ByteArray.data_append, Array.toList_append, hs, ht]
    have e : (32 :: 32 :: (lowW p (f % 4) ++ 32 :: 32 :: (lowW p ((f + 1) % 4) ++ 32 :: 32 :: (lowW p ((f + 2) % 4) ++ 32 :: 32 :: lowW p ((f + 3) % 4))))) ++ (capW p (f % 4) ++ 32 :: (capW p ((f + 1) % 4) ++ 32 :: (capW p ((f + 2) % 4) ++ 32 :: (capW p ((f + 3) % 4) ++ 32 :: [])))) =
        32 :: 32 :: (lowW p (f % 4) ++ 32 :: 32 :: (lowW p ((f + 1) % 4) ++ 32 :: 32 :: (lowW p ((f + 2) % 4) ++ 32 :: 32 :: ((lowW p ((f + 3) % 4) ++ capW p (f % 4)) ++ 32 :: (capW p ((f + 1) % 4) ++ 32 :: (capW p ((f + 2) % 4) ++ 32 :: (capW p ((f + 3) % 4) ++ 32 :: []))))))) := by simp
    rw [e]
    unfold parseR
    have hx0 : lowW p ((f + 3) % 4) ++ capW p (f % 4) ≠ [] := by simp [lowW]
    have hx1 : (32 : UInt8) ∉ lowW p ((f + 3) % 4) ++ capW p (f % 4) := fun h => (List.mem_append.1 h).elim (wl _).2 (wc _).2
    rw [words_blank, words_blank, words_word (wl _).1 (wl _).2, words_blank, words_word (wl _).1 (wl _).2, words_blank, words_word (wl _).1 (wl _).2, words_blank, words_word hx0 hx1]
    simp only [List.foldl_cons]
    rw [h1]
    have hbad : stepR (some q) (lowW p ((f + 3) % 4) ++ capW p (f % 4)) = none := by
      unfold lowW capW
      rw [List.cons_append, stepR, num_bad _ _ (.inr (low_tier (Nat.mod_lt _ (by decide))).2.2), if_pos (.inr (.inl (by decide)))]
    rw [hbad]
    have hnone : ∀ l : List (List UInt8), l.foldl stepR none = none := by
      intro l
      induction l with
      | nil => rfl
      | cons x l ih => exact ih
    rw [hnone]
    rfl
end Go.Proofs.YtdnmpkdnfockgaaGreatDoor
