/-
  What decimal of rootcellarlaw16 comes to: the number's digits.
-/
import Derived.Test.YtdnmpkdnfockgaaGreatDoorCount
import Derived.Test.YtdnmpkdnfockgaaGreatDoorName
namespace Go.Proofs.YtdnmpkdnfockgaaGreatDoor
open Go.RowKit

def decL (m : Nat) (s : List UInt8) : List UInt8 := if m = 0 then s else Lib.decDigits m ++ s
def digs10 : ByteArray := ⟨#[48, 49, 50, 51, 52, 53, 54, 55, 56, 57]⟩
theorem dig_at {i : Nat} (h : i < 10) : (digs10.extract i (i + 1)).data.toList = [UInt8.ofNat (48 + i)] := by
  have : i = 0 ∨ i = 1 ∨ i = 2 ∨ i = 3 ∨ i = 4 ∨ i = 5 ∨ i = 6 ∨ i = 7 ∨ i = 8 ∨ i = 9 := by omega
  rcases this with rfl | rfl | rfl | rfl | rfl | rfl | rfl | rfl | rfl | rfl <;> decide
theorem cat_at (i : Nat) (h : i < 10) (s : ByteArray) : (digs10.extract i (i + 1) ++ s).data.toList = UInt8.ofNat (48 + i) :: s.data.toList := by
  rw [ByteArray.data_append, Array.toList_append, dig_at h]
  rfl
theorem cat_size (i : Nat) (h : i < 10) (s : ByteArray) : (digs10.extract i (i + 1) ++ s).size = s.size + 1 := by
  rw [Lib.size_eq, cat_at i h s, List.length_cons, ← Lib.size_eq]
theorem dec_step {m : Nat} (s : List UInt8) : decL (m / 10) (UInt8.ofNat (48 + m % 10) :: s) = Lib.decDigits m ++ s := by
  unfold decL
  by_cases h : m < 10
  · rw [if_pos (by omega), Lib.decDigits, dif_pos h, Nat.mod_eq_of_lt h]
    rfl
  · have e : Lib.decDigits m = Lib.decDigits (m / 10) ++ [UInt8.ofNat (48 + m % 10)] := by rw [Lib.decDigits, dif_neg h]
    rw [if_neg (by omega), e, List.append_assoc]
    rfl

def decSt (n m : Nat) (s : ByteArray) : Prop := (s.size = 0 ∧ m = n) ∨ (0 < s.size ∧ decL m s.data.toList = Lib.decDigits n)
theorem dec_next {n m : Nat} {s : ByteArray} (h : decSt n m s) (hc : 0 < m ∨ s.size = 0) : decSt n (m / 10) (digs10.extract (m % 10) (m % 10 + 1) ++ s) := by
  right
  have hcat := cat_at (m % 10) (by omega) s
  refine ⟨?_, ?_⟩
  · rw [Lib.size_eq, hcat]; simp
  · rw [hcat, dec_step]
    rcases h with ⟨h1, rfl⟩ | ⟨h1, h2⟩
    · have : s.data.toList = [] := List.eq_nil_of_length_eq_zero (by rw [← Lib.size_eq]; exact h1)
      rw [this, List.append_nil]
    · rw [← h2, decL, if_neg (by omega)]
theorem dec_end {n m : Nat} {s : ByteArray} (h : decSt n m s) (h0 : m = 0) (h1 : 0 < s.size) : s = ⟨(Lib.decDigits n).toArray⟩ := by
  rcases h with ⟨h2, _⟩ | ⟨_, h2⟩
  · omega
  · subst h0
    rw [decL, if_pos rfl] at h2
    rw [← h2]

set_option maxHeartbeats 1000000 in
theorem decimal_any (n : Nat) (w : World) (hn : n ≤ 1000000) :
    Calls Tryz.prog 20 #[.int .i64 n] w fun e w' => e = .returned (.string ⟨(Lib.decDigits n).toArray⟩) ∧ w = w' := by
  go_enter Tryz.func20, Tryz.ntmps20
  go_wp2
  go_loop [0, 3] (fun v0 v3 => ∃ (m : Nat) (s : ByteArray), v0 = .int .i64 m ∧ v3 = .string s ∧ m ≤ 1000000 ∧ s.size + m ≤ 2000000 ∧ Hid (decSt n m s)) (fun v0 v3 => match v3 with | .string s => (if s.size = 0 then 1 else 0) + (intOf v0).toNat | _ => 0)
  case atStart => exact ⟨n, ByteArray.empty, rfl, rfl, hn, by show 0 + n ≤ 2000000; omega, .inl ⟨rfl, rfl⟩⟩
  case round =>
    obtain ⟨m, s, rfl, rfl, hm, hsz, hs⟩ := hrel
    have hnx := fun h => dec_next hs.out h
    have HNX := Lib.hid hnx
    have hen := fun h0 h1 => dec_end hs.out h0 h1
    have HEN := Lib.hid hen
    clear hnx hen
    have hc : 0 < m ∨ (m = 0 ∧ s.size = 0) ∨ (m = 0 ∧ 0 < s.size) := by omega
    rcases hc with h0 | ⟨h0, h1⟩ | ⟨h0, h1⟩
    · have hp : (0 : Int) < (m : Int) := by omega
      have hcs := cat_size (m % 10) (by omega) s
      have HCS := Lib.hid hcs
      clear hcs
      go_wp2_with fail
      go_roundw
      case measure =>
        have h := HCS.out
        unfold digs10 at h
        simp only [h, intOf]
        rw [if_neg (by omega)]
        split <;> omega
      case rel => exact ⟨m / 10, _, by go_num, rfl, by omega, by have h := HCS.out; unfold digs10 at h; rw [h]; omega, HNX.out (.inl h0)⟩
    · subst h0
      have hl := isEmpty_of h1
      have hcs := cat_size 0 (by omega) s
      have HCS := Lib.hid hcs
      clear hcs
      go_wp2_with fail
      go_roundw
      case measure =>
        have h := HCS.out
        unfold digs10 at h
        simp only [h, intOf]
        rw [if_neg (by omega), if_pos h1]
        simp
      case rel => exact ⟨0, _, rfl, rfl, by omega, by have h := HCS.out; unfold digs10 at h; rw [h]; omega, HNX.out (.inr h1)⟩
    · subst h0
      have hl := isEmpty_not h1
      go_wp2_with fail
      go_ret
      exact ⟨ret_str (HEN.out trivial h1), rfl⟩
end Go.Proofs.YtdnmpkdnfockgaaGreatDoor
