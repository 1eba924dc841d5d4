/-
  What policy.count comes to.
-/
import Derived.Test.YtdnmpkdnfockgaaGreatDoorLabel
import Derived.Lib.SpaceUEq
import Derived.Lib.TrimUEq
import Derived.Lib.LaidTab
import Derived.Lib.ItoaNum
import Derived.Deep.DeepMust
namespace Go.Proofs.YtdnmpkdnfockgaaGreatDoor
open Go.RowKit

/-- What is asked of strconv.Itoa (the shelf's contract): P: what it asks of the world. -/
def ItoaC (P : World → Prop) : Prop := ∀ (n : Int) (w : World), 0 ≤ n → n ≤ 1000 → P w → Calls Tryz.prog 49 #[.int .i64 n] w fun e w' => e = .returned (.string ⟨(Lib.itoa n).toArray⟩) ∧ Ext w w'
/-- P says nothing of what is made later. -/
def Holdfast (P : World → Prop) : Prop := ∀ w w' : World, P w → Ext w w' → P w'

def countGo : Int → List Int → Option Int
  | n, [] => some n
  | n, b :: bs => if b < 48 ∨ 57 < b ∨ 1000 < n then none else countGo (10 * n + (b - 48)) bs
def countF (s : ByteArray) : Int × Bool :=
  match countGo 0 (bytesI s) with
  | none => (0, false)
  | some n => (n, decide (n ≤ 1000) && (Lib.itoa n == s.toList))

theorem dec_digit (s : ByteArray) (pos : Nat) : (48 ≤ (Utf8.decode s pos).1 ∧ (Utf8.decode s pos).1 ≤ 57 → (Utf8.decode s pos).2 = 1 ∧ byteAt s pos = ((Utf8.decode s pos).1 : Int)) ∧ (48 ≤ byteAt s pos ∧ byteAt s pos ≤ 57 → byteAt s pos = ((Utf8.decode s pos).1 : Int)) := by
  rw [Lib.decode_N]
  unfold byteAt
  generalize (s.data.toList.getD pos 0).toNat = b0
  generalize (s.data.toList.getD (pos + 1) 0).toNat = b1
  generalize (s.data.toList.getD (pos + 2) 0).toNat = b2
  generalize (s.data.toList.getD (pos + 3) 0).toNat = b3
  rcases Lib.decodeN_cases (s.data.toList.length - pos) b0 b1 b2 b3 with ⟨h0, e⟩ | ⟨h0, _, _, h1, e⟩ | ⟨h0, _, _, _, h1, e⟩ | ⟨h0, h1⟩ | e
  · rw [e]; exact ⟨fun _ => ⟨rfl, rfl⟩, fun _ => rfl⟩
  · rw [e]; dsimp only; omega
  · rw [e]; dsimp only; omega
  · constructor
    · omega
    · intro h
      exfalso
      have ha := Lib.decodeN_ascii (s.data.toList.length - pos) b0 b1 b2 b3 (by omega)
      rw [ha] at h0 h1
      dsimp only at h1
      omega
  · rw [e]
    constructor
    · dsimp only; omega
    · intro h
      have ha := Lib.decodeN_ascii (s.data.toList.length - pos) b0 b1 b2 b3 (by omega)
      rw [e] at ha
      injection ha with ha _
      dsimp only
      omega
theorem bytesI_drop (s : ByteArray) {k : Nat} (hk : k < s.size) : (bytesI s).drop k = byteAt s k :: (bytesI s).drop (k + 1) := by
  have hl : (bytesI s).length = s.size := by simp [bytesI]
  rw [List.drop_eq_getElem_cons (by omega)]
  congr 1
  simp [bytesI]
theorem countGo_one (n b : Int) (bs : List Int) (h0 : 48 ≤ b) (h1 : b ≤ 57) (hn : n ≤ 1000) : countGo n (b :: bs) = countGo (10 * n + (b - 48)) bs := by
  rw [countGo, if_neg (by omega)]
theorem countGo_no (n b : Int) (bs : List Int) (h : b < 48 ∨ 57 < b ∨ 1000 < n) : countGo n (b :: bs) = none := by
  rw [countGo, if_pos h]

set_option maxHeartbeats 1000000 in
theorem cnt_any {P : World → Prop} (HI : ItoaC P) (HF : Holdfast P) (s : ByteArray) (w : World) (hp : P w) (hs : s.size < 9223372036854775807) :
    Calls Tryz.prog 43 #[.string s] w fun e w' => e = .returned (.tuple #[.int .i64 (countF s).1, .bool (countF s).2]) ∧ Ext w w' := by
  have HII := Lib.hid (fun n h0 h1 => HI n (w.iter s s.size) h0 h1 (HF _ _ hp ((Ext.refl w).iter s s.size)))
  clear HI HF hp
  go_enter Tryz.func43, Tryz.ntmps43
  go_wp2
  go_loopw [4] (fun n w' => ∃ (pos : Nat) (acc : Int), w' = w.iter s pos ∧ n = .int .i64 acc ∧ Hid (countGo acc ((bytesI s).drop pos) = countGo 0 (bytesI s)) ∧ 0 ≤ acc ∧ acc ≤ 20000 ∧ pos ≤ s.size) (fun _ w' => s.size - w'.iterPos w.heap.size)
  case atStart => exact ⟨0, 0, rfl, rfl, rfl, by omega, by omega, by omega⟩
  case round =>
    obtain ⟨pos, acc, rfl, rfl, hc, h0, h1, hb⟩ := hrel
    by_cases hp : pos < s.size
    · have hnx : ∀ ty, (Instr.next (.pointer (some ⟨w.heap.size, 0, none⟩)) true ty).run Tryz.prog (w.iter s pos) = _ := fun ty => run_next_any w s pos ty hp
      have hd := dec_digit s pos
      have hdr := bytesI_drop s hp
      have HD := Lib.hid hd
      have HDR := Lib.hid hdr
      clear hd hdr
      have hcase : ((48 : Int) ≤ ((Utf8.decode s pos).1 : Int) ∧ ((Utf8.decode s pos).1 : Int) ≤ 57 ∧ acc ≤ 1000) ∨ (((Utf8.decode s pos).1 : Int) < 48) ∨ ((48 : Int) ≤ ((Utf8.decode s pos).1 : Int) ∧ 57 < ((Utf8.decode s pos).1 : Int)) ∨ ((48 : Int) ≤ ((Utf8.decode s pos).1 : Int) ∧ ((Utf8.decode s pos).1 : Int) ≤ 57 ∧ 1000 < acc) := by omega
      rcases hcase with ⟨ha, hb2, hc2⟩ | ha | ⟨ha, hb2⟩ | ⟨ha, hb2, hc2⟩
      · go_wp2_with fail
        go_roundw
        case rel =>
          obtain ⟨hd1, hd2⟩ := HD.out.1 (by omega)
          refine ⟨pos + 1, 10 * acc + (byteAt s pos - 48), by rw [hd1], by rw [hd2], ?_, by omega, by omega, by omega⟩
          refine Lib.hid ?_
          rw [← hc.out, HDR.out, countGo_one _ _ _ (by omega) (by omega) (by omega)]
        case measure =>
          have := HD.out.1 (by omega)
          simp
          omega
      all_goals
        go_wp2_with fail
        go_ret2
        have hb := HD.out.2
        have hcf : countF s = (0, false) := by
          unfold countF
          rw [← hc.out, HDR.out, countGo_no _ _ _ (by omega)]
        exact ⟨by rw [hcf]; rfl, (Ext.refl w).iter s _⟩
    · have hnx : ∀ ty, (Instr.next (.pointer (some ⟨w.heap.size, 0, none⟩)) true ty).run Tryz.prog (w.iter s pos) = _ := fun ty => run_next_end w s pos ty hp
      obtain rfl : pos = s.size := by omega
      have hc' := hc.out
      rw [List.drop_eq_nil_of_le (by simp [bytesI])] at hc'
      have hcf : countF s = (acc, decide (acc ≤ 1000) && (Lib.itoa acc == s.toList)) := by
        unfold countF
        rw [← hc']
        rfl
      have HCF := Lib.hid hcf
      clear hcf hc' hc
      have hle : acc ≤ 1000 ∨ 1000 < acc := by omega
      rcases hle with hle | hle
      · go_wp2_with (go_at_call 49; refine (HII.out acc h0 hle).mono ?_; rintro e w1 ⟨rfl, hx⟩)
        go_ret2
        refine ⟨?_, ((Ext.refl w).iter s _).trans hx⟩
        rw [HCF.out, decide_eq_true hle, Bool.true_and]
        rfl
      · go_wp2_with fail
        go_ret2
        refine ⟨?_, (Ext.refl w).iter s _⟩
        rw [HCF.out, decide_eq_false (by omega), Bool.false_and]; rfl
end Go.Proofs.YtdnmpkdnfockgaaGreatDoor
