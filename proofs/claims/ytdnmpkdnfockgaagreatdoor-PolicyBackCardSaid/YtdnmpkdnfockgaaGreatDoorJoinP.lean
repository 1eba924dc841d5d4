/-
  strings.Join's contract in this seat's words.
-/
import Derived.Test.YtdnmpkdnfockgaaGreatDoorLibsP
import Derived.Test.YtdnmpkdnfockgaaGreatDoorPrintP
namespace Go.Proofs.YtdnmpkdnfockgaaGreatDoor
open Go.RowKit Go.Shelf

theorem join_ok : JoinC Env := by
  intro w base A c xs _ hown h0 hl hsz
  have hj : (Lib.join (xs.map (·.data.toList)) (⟨#[32]⟩ : ByteArray).data.toList).length ≤ 140737488355328 := by
    have h : (joinS xs).size = (Lib.join (xs.map (·.data.toList)) (⟨#[32]⟩ : ByteArray).data.toList).length := by rw [Lib.size_eq]; rfl
    omega
  rcases hown.2 with ⟨hv, hx⟩ | ⟨g, cap, cur, hv, hb, hh, hnc, hcm, hcs, hfl⟩
  · injection hv with h1 h2 h3
    exact absurd h2 (by omega)
  · injection hv with h1 h2 h3
    subst h1 h3
    have hg : g < w.heap.size := by
      rcases Nat.lt_or_ge g w.heap.size with hlt | hge
      · exact hlt
      · rw [Array.getElem?_eq_none hge] at hh; cases hh
    have hs := hown.sl encS_len rfl
    refine (Tryz.strings_Join g 0 c xs ⟨#[32]⟩ w (fun j x hx => ?_) hg (by omega) hnc hj).mono ?_
    · rcases hs with hs | ⟨ad, had, _, hc⟩
      · subst hs; simp at hx
      · injection had with had
        subst had
        have h := hc j x hx 0 _ rfl
        rw [Nat.mul_one, Nat.add_zero, add_off0] at h
        rw [Nat.zero_add]
        exact h
    · rintro e w' ⟨rfl, hx⟩
      exact ⟨rfl, hx⟩
end Go.Proofs.YtdnmpkdnfockgaaGreatDoor
