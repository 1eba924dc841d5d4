/-
  A tier's word: its letter and its digits.
-/
import Derived.Test.YtdnmpkdnfockgaaGreatDoorPlainW
namespace Go.Proofs.YtdnmpkdnfockgaaGreatDoor
open Go.RowKit

theorem dec_len (u : Nat) : (Lib.decDigits u).length ≤ u / 10 + 2 := by
  induction u using Nat.strongRecOn with
  | _ u ih =>
    rw [Lib.decDigits]
    split
    · simp
    · rename_i h
      have := ih (u / 10) (by omega)
      rw [List.length_append]
      simp
      omega
def decS (n : Int) : ByteArray := ⟨(Lib.decDigits n.toNat).toArray⟩
def lowT : ByteArray := ⟨#[100, 119, 109, 121]⟩
theorem nth_lo2 {p : Pol} (h : p.right = true) (k : Nat) (hk : k < 4) : 0 ≤ p.nth k ∧ p.nth k ≤ 1000 := by
  unfold Pol.right okN at h
  simp only [Bool.and_eq_true, decide_eq_true_eq] at h
  have : k = 0 ∨ k = 1 ∨ k = 2 ∨ k = 3 := by omega
  obtain ⟨⟨⟨h0, h1⟩, h2⟩, h3⟩ := h
  rcases this with rfl | rfl | rfl | rfl
  · exact h0
  · exact h1
  · exact h2
  · exact h3
theorem decS_size {n : Int} (h0 : 0 ≤ n) (h1 : n ≤ 1000) : (decS n).size ≤ 102 := by
  have h := dec_len n.toNat
  have : (decS n).size = (Lib.decDigits n.toNat).length := by rw [Lib.size_eq]; rfl
  omega

theorem dec_byte {n : Nat} {b : UInt8} (h : b ∈ Lib.decDigits n) : 48 ≤ b.toNat ∧ b.toNat ≤ 57 := by
  have key : ∀ (bs : List UInt8) (m k : Int), digitsGo m bs = some k → b ∈ bs → 48 ≤ b.toNat ∧ b.toNat ≤ 57 := by
    intro bs
    induction bs with
    | nil => intro m k _ h; cases h
    | cons c cs ih =>
      intro m k h hb
      rw [digitsGo] at h
      split at h
      · cases h
      · rcases List.mem_cons.1 hb with e | e
        · subst e; omega
        · exact ih _ _ h e
  exact key _ _ _ (dec_go n) h
theorem dec_noblank (n : Nat) : (32 : UInt8) ∉ Lib.decDigits n := fun h => absurd (dec_byte h).1 (by decide)

def lowB : Nat → UInt8 | 0 => 100 | 1 => 119 | 2 => 109 | _ => 121
theorem lowT_at {k : Nat} (h : k < 4) : (lowT.extract k (k + 1)).data.toList = [lowB k] := by
  have : k = 0 ∨ k = 1 ∨ k = 2 ∨ k = 3 := by omega
  rcases this with rfl | rfl | rfl | rfl <;> decide
def lowW (p : Pol) (k : Nat) : List UInt8 := lowB k :: Lib.decDigits (p.nth k).toNat
theorem low_word (p : Pol) (k : Nat) : lowW p k ≠ [] ∧ (32 : UInt8) ∉ lowW p k := by
  refine ⟨by simp [lowW], ?_⟩
  unfold lowW
  intro h
  rcases List.mem_cons.1 h with h | h
  · revert h; unfold lowB; split <;> decide
  · exact dec_noblank _ h
theorem tier_low {k : Nat} (h : k < 4) : tierR (lowB k) = k := by
  have : k = 0 ∨ k = 1 ∨ k = 2 ∨ k = 3 := by omega
  rcases this with rfl | rfl | rfl | rfl <;> decide
theorem step_word {q : Pol} {c : UInt8} {k : Nat} {n : Int} (hc : tierR c = k) (h0 : 0 ≤ n) (h1 : n ≤ 1000) (hq : q.nth k < 0) : stepR (some q) (c :: Lib.decDigits n.toNat) = some (q.put k n) := by
  have hn := num_dec (n := n.toNat) (by omega)
  rw [stepR, hc, hn, Int.toNat_natCast, if_neg (by omega)]
  congr 2
  omega
end Go.Proofs.YtdnmpkdnfockgaaGreatDoor
