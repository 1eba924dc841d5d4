/-
  rootcellarref16's small functions: tier, number, Right, decimal.
-/
import Derived.Test.YtdnmpkdnfockgaaGreatDoorPlainW
import Derived.Test.YtdnmpkdnfockgaaGreatDoorDecimal
namespace Go.Proofs.YtdnmpkdnfockgaaGreatDoor
open Go.RowKit

def tierI (c : Int) : Int := if c = 100 ∨ c = 68 then 0 else if c = 119 ∨ c = 87 then 1 else if c = 109 ∨ c = 77 then 2 else if c = 121 ∨ c = 89 then 3 else -1
set_option maxRecDepth 100000 in
theorem tierI_b (b : UInt8) : tierI (b.toNat : Int) = tierR b := by
  have key : ∀ k : Fin 256, tierI (k.val : Int) = tierR (UInt8.ofNat k.val) := by decide
  have := key ⟨b.toNat, b.toNat_lt⟩
  simpa using this

set_option maxHeartbeats 1000000 in
theorem tier_any (c : Int) (w : World) : Calls Tryz.prog 47 #[.int .u8 c] w fun e w' => e = .returned (.int .i64 (tierI c)) ∧ Ext w w' := by
  have h : c = 100 ∨ c = 68 ∨ c = 119 ∨ c = 87 ∨ c = 109 ∨ c = 77 ∨ c = 121 ∨ c = 89 ∨ (c ≠ 100 ∧ c ≠ 68 ∧ c ≠ 119 ∧ c ≠ 87 ∧ c ≠ 109 ∧ c ≠ 77 ∧ c ≠ 121 ∧ c ≠ 89) := by omega
  rcases h with rfl | rfl | rfl | rfl | rfl | rfl | rfl | rfl | ⟨h1, h2, h3, h4, h5, h6, h7, h8⟩
  all_goals
    go_enter Tryz.func47, Tryz.ntmps47
    go_wp2_with fail
    go_ret
    refine ⟨ret_int ?_, Ext.refl w⟩
  all_goals first | rfl | (unfold tierI; rw [if_neg (by omega), if_neg (by omega), if_neg (by omega), if_neg (by omega)])

theorem getE (s : ByteArray) {k : Nat} (hk : k < s.size) : s.data.toList.drop k = s[k] :: s.data.toList.drop (k + 1) := by
  have hl : s.data.toList.length = s.size := (Lib.size_eq s).symm
  rw [List.drop_eq_getElem_cons (by omega)]
  congr 1
theorem num_no {bs : List UInt8} (h : bs = [] ∨ 4 < bs.length ∨ (1 < bs.length ∧ bs.head? = some 48)) : numR bs = -1 := by unfold numR; rw [if_pos h]
theorem num_yes {bs : List UInt8} (h : ¬ (bs = [] ∨ 4 < bs.length ∨ (1 < bs.length ∧ bs.head? = some 48))) : numR bs = match digitsGo 0 bs with | none => -1 | some n => if 1000 < n then -1 else n := by unfold numR; rw [if_neg h]; cases digitsGo 0 bs <;> rfl
theorem head_get (s : ByteArray) (h : 0 < s.size) : s.data.toList.head? = some s[0] := by
  have := getE s h
  rw [List.drop_zero] at this
  rw [this]
  rfl

set_option maxHeartbeats 1000000 in
theorem number_yes (s : ByteArray) (w : World) (h0 : 0 < s.size) (h4 : s.size ≤ 4) (hc : s.size = 1 ∨ (1 < s.size ∧ s[0].toNat ≠ 48)) : Calls Tryz.prog 48 #[.string s] w fun e w' => e = .returned (.int .i64 (numR s.data.toList)) ∧ Ext w w' := by
  have hl := isEmpty_not h0
  have hgo : Hid (numR s.data.toList = match digitsGo 0 s.data.toList with | none => -1 | some n => if 1000 < n then -1 else n) := by
    have hsz := Lib.size_eq s
    have hhead := head_get s h0
    refine num_yes ?_
    rintro (h | h | ⟨h1, h⟩)
    · have : s.size = 0 := by rw [hsz, h]; rfl
      omega
    · omega
    · rw [hhead] at h
      injection h with h
      rcases hc with e | ⟨_, e⟩
      · omega
      · exact e (by rw [h]; rfl)
  have hc2 : s.size = 1 ∨ (1 < s.size ∧ (((s[0].toNat : Nat) : Int) == 48) = false) := by
    rcases hc with h | ⟨h1, h2⟩
    · exact .inl h
    · exact .inr ⟨h1, beq_eq_false_iff_ne.2 (by omega)⟩
  have HG := fun k (hk : k < s.size) => getE s hk
  have HGE := Lib.hid HG
  have HEND : Hid (s.data.toList.drop s.size = []) := List.drop_eq_nil_of_le (by rw [← Lib.size_eq]; exact Nat.le_refl _)
  clear hc HG
  rcases hc2 with hc | ⟨hc, hc'⟩
  all_goals
    go_enter Tryz.func48, Tryz.ntmps48
    go_wp2_with fail
    go_loop [3, 4] (fun v3 v4 => ∃ (k : Nat) (acc : Int), v4 = .int .i64 k ∧ v3 = .int .i64 acc ∧ k ≤ s.size ∧ 0 ≤ acc ∧ Hid (acc + 1 ≤ 10 ^ k) ∧ Hid (digitsGo acc (s.data.toList.drop k) = digitsGo 0 s.data.toList)) (fun v3 v4 => s.size - (intOf v4).toNat)
    case atStart => exact ⟨0, 0, rfl, rfl, Nat.zero_le _, Int.le_refl _, Lib.hid (by decide), Lib.hid (by rw [List.drop_zero])⟩
    case round =>
      obtain ⟨k, acc, rfl, rfl, hk, ha0, ha1, hd⟩ := hrel
      by_cases hlt : k < s.size
      · have hk3 : k = 0 ∨ k = 1 ∨ k = 2 ∨ k = 3 := by omega
        have hacc : acc ≤ 999 := by
          have := ha1.out
          rcases hk3 with rfl | rfl | rfl | rfl <;> simp at this <;> omega
        have hdd := hd.out
        rw [HGE.out k hlt, digitsGo] at hdd
        have hbl := s[k].toNat_lt
        obtain ⟨b, hb⟩ : ∃ b : Nat, s[k].toNat = b := ⟨_, rfl⟩
        rw [hb] at hdd hbl
        have HDD := Lib.hid hdd
        have HPW : Hid ((10 : Int) ^ (k + 1) = 10 ^ k * 10) := Lib.hid (Int.pow_succ 10 k)
        clear hdd hk3
        have hcase : b < 48 ∨ (48 ≤ b ∧ 57 < b) ∨ (48 ≤ b ∧ b ≤ 57) := by omega
        rcases hcase with hx | ⟨hx, hy⟩ | ⟨hx, hy⟩
        · have hbi : ((s[k].toNat : Nat) : Int) < 48 := by omega
          go_wp2_with fail
          go_ret
          refine ⟨ret_int ?_, Ext.refl w⟩
          have := HDD.out
          rw [if_pos (by omega)] at this
          rw [hgo.out, ← this]
        · have hbi : (48 : Int) ≤ ((s[k].toNat : Nat) : Int) := by omega
          have hbj : (57 : Int) < ((s[k].toNat : Nat) : Int) := by omega
          go_wp2_with fail
          go_ret
          refine ⟨ret_int ?_, Ext.refl w⟩
          have := HDD.out
          rw [if_pos (by omega)] at this
          rw [hgo.out, ← this]
        · have hbi : (48 : Int) ≤ ((s[k].toNat : Nat) : Int) := by omega
          have hbj : ((s[k].toNat : Nat) : Int) ≤ 57 := by omega
          go_wp2_with fail
          go_roundw
          case measure => simp [intOf]; omega
          case rel =>
            have h1 := HDD.out
            rw [if_neg (by omega)] at h1
            have h2 := ha1.out
            have h3 := HPW.out
            refine ⟨k + 1, 10 * acc + ((b : Int) - 48), by go_num, rfl, by omega, by omega, Lib.hid (by rw [h3]; omega), Lib.hid h1⟩
      · obtain rfl : k = s.size := by omega
        have hdd := hd.out
        rw [HEND.out, digitsGo] at hdd
        have hn : numR s.data.toList = if 1000 < acc then -1 else acc := by rw [hgo.out, ← hdd]
        have HN := Lib.hid hn
        clear hdd hn
        have hle : 1000 < acc ∨ acc ≤ 1000 := by omega
        have hacc : acc ≤ 9999 := by
          have := ha1.out
          have hk3 : s.size = 1 ∨ s.size = 2 ∨ s.size = 3 ∨ s.size = 4 := by omega
          rcases hk3 with e | e | e | e <;> rw [e] at this <;> simp at this <;> omega
        rcases hle with hle | hle
        · go_wp2_with fail
          go_ret
          exact ⟨ret_int (by rw [HN.out, if_pos hle]), Ext.refl w⟩
        · go_wp2_with fail
          go_ret
          exact ⟨ret_int (by rw [HN.out, if_neg (by omega)]), Ext.refl w⟩

set_option maxHeartbeats 1000000 in
theorem number_any (s : ByteArray) (w : World) (hs : s.size ≤ 65536) : Calls Tryz.prog 48 #[.string s] w fun e w' => e = .returned (.int .i64 (numR s.data.toList)) ∧ Ext w w' := by
  have hsz := Lib.size_eq s
  have hcase : s.size = 0 ∨ 4 < s.size ∨ (1 < s.size ∧ s.size ≤ 4) ∨ s.size = 1 := by omega
  rcases hcase with h | h | ⟨h1, h2⟩ | h
  · have hl := isEmpty_of h
    have hn := num_no (bs := s.data.toList) (.inl (List.eq_nil_of_length_eq_zero (by omega)))
    have HN := Lib.hid hn
    clear hn hsz
    go_enter Tryz.func48, Tryz.ntmps48
    go_wp2_with fail
    go_ret
    exact ⟨ret_int HN.out.symm, Ext.refl w⟩
  · have hl := isEmpty_not (s := s) (by omega)
    have hn := num_no (bs := s.data.toList) (.inr (.inl (by omega)))
    have HN := Lib.hid hn
    clear hn hsz
    go_enter Tryz.func48, Tryz.ntmps48
    go_wp2_with fail
    go_ret
    exact ⟨ret_int HN.out.symm, Ext.refl w⟩
  · have hl := isEmpty_not (s := s) (by omega)
    have hpos : 0 < s.size := Nat.lt_of_succ_lt h1
    have hhead := head_get s hpos
    by_cases hz : (s[0]'hpos).toNat = 48
    · have hn := num_no (bs := s.data.toList) (.inr (.inr ⟨by omega, by rw [hhead, byte48 hz]⟩))
      have HN := Lib.hid hn
      have hz2 : (((s[0]'hpos).toNat : Nat) : Int) = 48 := congrArg Nat.cast hz
      clear hn hhead hz hsz
      go_enter Tryz.func48, Tryz.ntmps48
      go_wp2_with fail
      go_ret
      exact ⟨ret_int HN.out.symm, Ext.refl w⟩
    · exact number_yes s w hpos h2 (.inr ⟨h1, hz⟩)
  · exact number_yes s w (by omega) (by omega) (.inl h)

set_option maxHeartbeats 1000000 in
theorem decimal2_any (n : Nat) (w : World) (hn : n ≤ 1000000) :
    Calls Tryz.prog 51 #[.int .i64 n] w fun e w' => e = .returned (.string ⟨(Lib.decDigits n).toArray⟩) ∧ w = w' := by
  go_enter Tryz.func51, Tryz.ntmps51
  go_wp2
  go_loop [0, 3] (fun v0 v3 => ∃ (m : Nat) (s : ByteArray), v0 = .int .i64 m ∧ v3 = .string s ∧ m ≤ 1000000 ∧ s.size + m ≤ 2000000 ∧ Hid (decSt n m s)) (fun v0 v3 => match v3 with | .string s => (if s.size = 0 then 1 else 0) + (intOf v0).toNat | _ => 0)
  case atStart => exact ⟨n, ByteArray.empty, rfl, rfl, hn, by show 0 + n ≤ 2000000; omega, .inl ⟨rfl, rfl⟩⟩
  case round =>
    obtain ⟨m, s, rfl, rfl, hm, hsz, hs⟩ := hrel
    have hnx := fun h => dec_next hs.out h
    have HNX := Lib.hid hnx
    have hen := fun h0 h1 => dec_end hs.out h0 h1
    have HEN := Lib.hid hen
    clear hnx hen
    have hc : 0 < m ∨ (m = 0 ∧ s.size = 0) ∨ (m = 0 ∧ 0 < s.size) := by omega
    rcases hc with h0 | ⟨h0, h1⟩ | ⟨h0, h1⟩
    · have hp : (0 : Int) < (m : Int) := by omega
      have hcs := cat_size (m % 10) (by omega) s
      have HCS := Lib.hid hcs
      clear hcs
      go_wp2_with fail
      go_roundw
      case measure =>
        have h := HCS.out
        unfold digs10 at h
        simp only [h, intOf]
        rw [if_neg (by omega)]
        split <;> omega
      case rel => exact ⟨m / 10, _, by go_num, rfl, by omega, by have h := HCS.out; unfold digs10 at h; rw [h]; omega, HNX.out (.inl h0)⟩
    · subst h0
      have hl := isEmpty_of h1
      have hcs := cat_size 0 (by omega) s
      have HCS := Lib.hid hcs
      clear hcs
      go_wp2_with fail
      go_roundw
      case measure =>
        have h := HCS.out
        unfold digs10 at h
        simp only [h, intOf]
        rw [if_neg (by omega), if_pos h1]
        simp
      case rel => exact ⟨0, _, rfl, rfl, by omega, by have h := HCS.out; unfold digs10 at h; rw [h]; omega, HNX.out (.inr h1)⟩
    · subst h0
      have hl := isEmpty_not h1
      go_wp2_with fail
      go_ret
      exact ⟨ret_str (HEN.out trivial h1), rfl⟩

set_option maxHeartbeats 1000000 in
theorem right2_any (p : Pol) (w : World) : Calls Tryz.prog 23 #[.agg #[.int .i64 p.d, .int .i64 p.w, .int .i64 p.m, .int .i64 p.y]] w fun e w' => e = .returned (.bool p.right) ∧ Ext w w' := by
  have hr : p.right = (okN p.d && okN p.w && okN p.m && okN p.y) := rfl
  have HR := Lib.hid hr
  clear hr
  obtain ⟨a, b, c, d⟩ := p
  dsimp only at HR
  have hcase : (a < 0 ∨ (0 ≤ a ∧ 1000 < a)) ∨ (0 ≤ a ∧ a ≤ 1000) ∧ ((b < 0 ∨ (0 ≤ b ∧ 1000 < b)) ∨ (0 ≤ b ∧ b ≤ 1000) ∧ ((c < 0 ∨ (0 ≤ c ∧ 1000 < c)) ∨ (0 ≤ c ∧ c ≤ 1000) ∧ ((d < 0 ∨ (0 ≤ d ∧ 1000 < d)) ∨ (0 ≤ d ∧ d ≤ 1000)))) := by omega
  have key : ∀ (x : Bool), (okN a && okN b && okN c && okN d) = x → Hid ((⟨a, b, c, d⟩ : Pol).right = x) := fun x h => Lib.hid (HR.out.trans h)
  clear HR
  rcases hcase with (h | ⟨h, h'⟩) | ⟨⟨h0, h1⟩, (h | ⟨h, h'⟩) | ⟨⟨h2, h3⟩, (h | ⟨h, h'⟩) | ⟨⟨h4, h5⟩, (h | ⟨h, h'⟩) | ⟨h6, h7⟩⟩⟩⟩
  all_goals
    first
      | (have HX := key true (by unfold okN; simp; omega))
      | (have HX := key false (by unfold okN; simp; omega))
    clear key
    go_enter Tryz.func23, Tryz.ntmps23
    go_wp2_with fail
    go_ret
    first
      | exact ⟨ret_bool HX.out.symm, (Ext.refl w).alloc _⟩
      | exact ⟨ret_bool ((decide_eq_false (by omega)).trans HX.out.symm), (Ext.refl w).alloc _⟩
      | exact ⟨ret_bool ((decide_eq_true (by omega)).trans HX.out.symm), (Ext.refl w).alloc _⟩
end Go.Proofs.YtdnmpkdnfockgaaGreatDoor
