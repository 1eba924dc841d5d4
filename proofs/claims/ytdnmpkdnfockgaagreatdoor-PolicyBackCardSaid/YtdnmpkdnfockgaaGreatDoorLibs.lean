/-
  What is asked of the library's functions that policy.Keep calls (the shelf's contracts, in this seat's words).
-/
import Derived.Test.YtdnmpkdnfockgaaGreatDoorCmp
import Derived.Test.YtdnmpkdnfockgaaGreatDoorName
import Derived.Test.YtdnmpkdnfockgaaGreatDoorSort
import Derived.Lib.SlicesCompact
namespace Go.Proofs.YtdnmpkdnfockgaaGreatDoor
open Go.RowKit

def SortLC : Prop := ∀ (w : World) (base : Nat) (A : Option Addr) (c : Nat) (xs : List Lk), Own Lk.enc 37 6 w base (.slice A xs.length c) xs → xs.length ≤ 60 →
  Calls Tryz.prog 29 #[.slice A xs.length c, .func (.func 30) #[] #[]] w fun e w' =>
    e = .returned (.tuple #[]) ∧ (∃ ys : List Lk, Own Lk.enc 37 6 w' base (.slice A xs.length c) ys ∧ ys.Perm xs ∧ ys.Pairwise (fun x y => ¬ cmpK y x < 0)) ∧ w.grownBy w' (Value.slice A xs.length c).ownBlock
def SortIC : Prop := ∀ (w : World) (base : Nat) (A : Option Addr) (c : Nat) (xs : List Int), Own encI 3 1 w base (.slice A xs.length c) xs → xs.length ≤ 1000 →
  Calls Tryz.prog 35 #[.slice A xs.length c] w fun e w' =>
    e = .returned (.tuple #[]) ∧ Own encI 3 1 w' base (.slice A xs.length c) (xs.mergeSort fun x y => decide (x ≤ y)) ∧ w.grownBy w' (Value.slice A xs.length c).ownBlock
def CompactC : Prop := ∀ (w : World) (base : Nat) (A : Option Addr) (c : Nat) (xs : List Int), Own encI 3 1 w base (.slice A xs.length c) xs → xs.length ≤ 1000 →
  Calls Tryz.prog 36 #[.slice A xs.length c] w fun e w' =>
    e = .returned (.slice A (Lib.compact xs).length c) ∧ Own encI 3 1 w' base (.slice A (Lib.compact xs).length c) (Lib.compact xs) ∧ w.grownBy w' (Value.slice A xs.length c).ownBlock
def ContainsC : Prop := ∀ (w : World) (g c : Nat) (xs : List Int) (x : Int), Sl encI 1 w (some ⟨g, 0, none⟩) xs → xs.length ≤ 1000 →
  Calls Tryz.prog 37 #[.slice (some ⟨g, 0, none⟩) xs.length c, .int .i64 x] w fun e w' => e = .returned (.bool (xs.contains x)) ∧ w = w'

structure LibC : Prop where
  valid : ValidC
  sortL : SortLC
  sortI : SortIC
  compact : CompactC
  contains : ContainsC
end Go.Proofs.YtdnmpkdnfockgaaGreatDoor
