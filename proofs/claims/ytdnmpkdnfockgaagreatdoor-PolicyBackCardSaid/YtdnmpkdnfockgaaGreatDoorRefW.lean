/-
  rootcellarref16.words: the words of a text.
-/
import Derived.Test.YtdnmpkdnfockgaaGreatDoorRefA
namespace Go.Proofs.YtdnmpkdnfockgaaGreatDoor
open Go.RowKit

def stepW (a : List (List UInt8) × List UInt8) (b : UInt8) : List (List UInt8) × List UInt8 := if b = 32 then (if a.2 = [] then a.1 else a.1 ++ [a.2], []) else (a.1, a.2 ++ [b])
def endW (a : List (List UInt8) × List UInt8) : List (List UInt8) := if a.2 = [] then a.1 else a.1 ++ [a.2]
theorem stepW_words : ∀ (l : List UInt8) (out : List (List UInt8)) (word : List UInt8), (32 : UInt8) ∉ word → endW (l.foldl stepW (out, word)) = out ++ wordsL (word ++ l)
  | [], out, word, h => by
    rw [List.foldl_nil, List.append_nil]
    unfold endW
    by_cases h0 : word = []
    · subst h0; rw [if_pos rfl, words_nil, List.append_nil]
    · rw [if_neg h0, words_last h0 h]
  | b :: l, out, word, h => by
    rw [List.foldl_cons, stepW]
    by_cases hb : b = 32
    · subst hb
      rw [if_pos rfl, stepW_words l _ [] (by simp), List.nil_append]
      by_cases h0 : word = []
      · subst h0; rw [if_pos rfl, List.nil_append, words_blank]
      · rw [if_neg h0, words_word h0 h]; simp
    · rw [if_neg hb, stepW_words l out (word ++ [b]) (by
        intro hm
        rcases List.mem_append.1 hm with hm | hm
        · exact h hm
        · exact hb (List.mem_singleton.1 hm).symm)]
      simp
theorem encS_one (s : ByteArray) : ∀ u ∈ encS s, u.oneCell' = true := by
  intro u hu
  unfold encS at hu
  rw [List.mem_singleton] at hu
  subst hu
  rfl
theorem info_str : (Tryz.prog.info? 9).map (fun i => (i.zero, i.size, i.bytes)) = some (some (.string ByteArray.empty), 1, 16) := by kernel_rfl
theorem take_snoc8 (s : ByteArray) {k : Nat} (hk : k < s.size) : s.data.toList.take (k + 1) = s.data.toList.take k ++ [s[k]] := by
  rw [List.take_succ_eq_append_getElem (by rw [← Lib.size_eq]; exact hk)]
  congr 1
theorem ext_one (s : ByteArray) {k : Nat} (hk : k < s.size) : (s.extract k (k + 1)).data.toList = [s[k]] := by
  rw [Lib.extract_data, show k + 1 - k = 1 from by omega, getE s hk]
  rfl
theorem ba_size0 {s : ByteArray} (h : s.size = 0) : s.data.toList = [] := List.eq_nil_of_length_eq_zero (by rw [← Lib.size_eq]; exact h)
theorem ba_ne {s : ByteArray} (h : 0 < s.size) : s.data.toList ≠ [] := fun e => by rw [Lib.size_eq, e] at h; exact absurd h (by simp)
def dataL (l : List ByteArray) : List (List UInt8) := l.map (·.data.toList)
theorem dataL_snoc (l : List ByteArray) (x : ByteArray) : dataL (l ++ [x]) = dataL l ++ [x.data.toList] := by unfold dataL; rw [List.map_append]; rfl
def WordsAt (s : ByteArray) (k : Nat) (out : List ByteArray) (wd : ByteArray) : Prop := k ≤ s.size ∧ (s.data.toList.take k).foldl stepW ([], []) = (dataL out, wd.data.toList)
theorem wa_byte {s : ByteArray} {k : Nat} {out : List ByteArray} {wd : ByteArray} (h : WordsAt s k out wd) (hk : k < s.size) (hb : s[k].toNat ≠ 32) : WordsAt s (k + 1) out (wd ++ s.extract k (k + 1)) := by
  refine ⟨by omega, ?_⟩
  rw [take_snoc8 s hk, List.foldl_append, h.2, List.foldl_cons, List.foldl_nil, stepW, if_neg (fun e => hb (by rw [e]; rfl)), ByteArray.data_append, Array.toList_append, ext_one s hk]
theorem wa_blank0 {s : ByteArray} {k : Nat} {out : List ByteArray} {wd : ByteArray} (h : WordsAt s k out wd) (hk : k < s.size) (hb : s[k].toNat = 32) (h0 : wd.size = 0) : WordsAt s (k + 1) out ByteArray.empty := by
  refine ⟨by omega, ?_⟩
  have e : s[k] = 32 := UInt8.toNat_inj.1 hb
  rw [take_snoc8 s hk, List.foldl_append, h.2, List.foldl_cons, List.foldl_nil, stepW, if_pos e, ba_size0 h0, if_pos rfl]
  rfl
theorem wa_blank1 {s : ByteArray} {k : Nat} {out : List ByteArray} {wd : ByteArray} (h : WordsAt s k out wd) (hk : k < s.size) (hb : s[k].toNat = 32) (h0 : 0 < wd.size) : WordsAt s (k + 1) (out ++ [wd]) ByteArray.empty := by
  refine ⟨by omega, ?_⟩
  have e : s[k] = 32 := UInt8.toNat_inj.1 hb
  rw [take_snoc8 s hk, List.foldl_append, h.2, List.foldl_cons, List.foldl_nil, stepW, if_pos e, if_neg (ba_ne h0), dataL_snoc]
  rfl
theorem wa_all {s : ByteArray} {out : List ByteArray} {wd : ByteArray} (h : WordsAt s s.size out wd) : wordsL s.data.toList = endW (dataL out, wd.data.toList) := by
  have h1 := stepW_words s.data.toList [] [] (by simp)
  have h2 := h.2
  rw [List.take_of_length_le (by rw [← Lib.size_eq]; exact Nat.le_refl _)] at h2
  rw [h2] at h1
  simpa using h1.symm
theorem wa_end0 {s : ByteArray} {out : List ByteArray} {wd : ByteArray} (h : WordsAt s s.size out wd) (h0 : wd.size = 0) : wordsL s.data.toList = dataL out := by
  rw [wa_all h]; unfold endW; rw [if_pos (ba_size0 h0)]
theorem wa_end1 {s : ByteArray} {out : List ByteArray} {wd : ByteArray} (h : WordsAt s s.size out wd) (h0 : 0 < wd.size) : wordsL s.data.toList = dataL (out ++ [wd]) := by
  rw [wa_all h]; unfold endW; rw [if_neg (ba_ne h0), dataL_snoc]

set_option maxRecDepth 100000 in
set_option maxHeartbeats 2000000 in
theorem words_any (s : ByteArray) (w : World) (hs : s.size ≤ 8000) :
    Calls Tryz.prog 46 #[.string s] w fun e w' => (∃ v ws, e = .returned v ∧ Own encS 9 1 w' w.heap.size v ws ∧ dataL ws = wordsL s.data.toList ∧ ws.length ≤ 8001) ∧ Ext w w' := by
  go_enter Tryz.func46, Tryz.ntmps46
  go_wp2_with fail
  go_loopw [3, 4, 5] (fun v3 v4 v5 wr => ∃ (k : Nat) (out : List ByteArray) (wd : ByteArray), v5 = .int .i64 k ∧ v4 = .string wd ∧ k ≤ s.size + 1 ∧ wd.size ≤ k ∧ out.length ≤ k ∧ Hid (Own encS 9 1 wr w.heap.size v3 out) ∧ Hid (Ext w wr) ∧ Hid (WordsAt s k out wd ∨ (k = s.size + 1 ∧ dataL out = wordsL s.data.toList))) (fun _ _ v5 _ => s.size + 1 - (intOf v5).toNat)
  case atStart => exact ⟨0, [], ByteArray.empty, rfl, rfl, by omega, Nat.le_refl _, Nat.le_refl _, Own.nil, Ext.refl w, .inl ⟨Nat.zero_le _, rfl⟩⟩
  case round =>
    obtain ⟨k, out, wd, rfl, rfl, hk, hwd, hol, HO, HE, HW⟩ := hrel
    have hsize := HE.out.size
    obtain ⟨A3, c3, rfl, _⟩ := HO.out.slice
    by_cases hlt : k ≤ s.size
    · have hwa : Hid (WordsAt s k out wd) := Lib.hid (by
        rcases HW.out with h | ⟨h, _⟩
        · exact h
        · omega)
      clear HW
      have h0 : wd.size = 0 ∨ 0 < wd.size := by omega
      by_cases hlt2 : k < s.size
      · by_cases hb : s[k].toNat = 32
        · have hbi : ((s[k].toNat : Nat) : Int) = 32 := by omega
          rcases h0 with h0 | h0
          · have hl := isEmpty_of h0
            have HN := Lib.hid (wa_blank0 hwa.out hlt2 hb h0)
            clear hb
            go_wp2_with fail
            go_roundw
            case measure => simp [intOf]; omega
            case rel => exact ⟨k + 1, out, ByteArray.empty, by go_num, rfl, by omega, by show 0 ≤ _; omega, by omega, HO, HE, Lib.hid (.inl HN.out)⟩
          · have hl := isEmpty_not h0
            have HN := Lib.hid (wa_blank1 hwa.out hlt2 hb h0)
            clear hb
            go_wp2_with (at_builtin; go_must (refine wp_app rfl (.tmp 31) (.tmp 33) 78 rfl Tryz.underlying78 info_str rfl (by decide) encS_len encS_one w.heap.size (.slice A3 out.length c3) out rfl (HO.out.alloc _) _ 1 1 [wd] rfl rfl (Sl.one _ 9 wd _ rfl (by simp)) (by simp; omega) (by simp; omega) (by simp; omega) ?_; intro v6 w6 hown6 hg6 _; have HO6 := Lib.hid hown6; have HE6 := Lib.hid (Own.step (HO.out.alloc _) (HE.out.alloc _) hg6); clear hown6 hg6))
            go_roundw
            case measure => simp [intOf]; omega
            case rel => exact ⟨k + 1, out ++ [wd], ByteArray.empty, by go_num, rfl, by omega, by show 0 ≤ _; omega, by simp; omega, HO6, HE6, Lib.hid (.inl HN.out)⟩
        · have hbi : (((s[k].toNat : Nat) : Int) == 32) = false := beq_eq_false_iff_ne.2 (by omega)
          have HN := Lib.hid (wa_byte hwa.out hlt2 hb)
          have HZ : Hid ((wd ++ s.extract k (k + 1)).size ≤ k + 1) := Lib.hid (by rw [ByteArray.size_append, ByteArray.size_extract]; omega)
          clear hb
          go_wp2_with fail
          go_roundw
          case measure => simp [intOf]; omega
          case rel => exact ⟨k + 1, out, wd ++ s.extract k (k + 1), by go_num, rfl, by omega, HZ.out, by omega, HO, HE, Lib.hid (.inl HN.out)⟩
      · obtain rfl : k = s.size := by omega
        rcases h0 with h0 | h0
        · have hl := isEmpty_of h0
          have HN := Lib.hid (wa_end0 hwa.out h0)
          go_wp2_with fail
          go_roundw
          case measure => simp [intOf]
          case rel => exact ⟨s.size + 1, out, ByteArray.empty, by go_num, rfl, by omega, by show 0 ≤ _; omega, by omega, HO, HE, Lib.hid (.inr ⟨rfl, HN.out.symm⟩)⟩
        · have hl := isEmpty_not h0
          have HN := Lib.hid (wa_end1 hwa.out h0)
          go_wp2_with (at_builtin; go_must (refine wp_app rfl (.tmp 31) (.tmp 33) 78 rfl Tryz.underlying78 info_str rfl (by decide) encS_len encS_one w.heap.size (.slice A3 out.length c3) out rfl (HO.out.alloc _) _ 1 1 [wd] rfl rfl (Sl.one _ 9 wd _ rfl (by simp)) (by simp; omega) (by simp; omega) (by simp; omega) ?_; intro v6 w6 hown6 hg6 _; have HO6 := Lib.hid hown6; have HE6 := Lib.hid (Own.step (HO.out.alloc _) (HE.out.alloc _) hg6); clear hown6 hg6))
          go_roundw
          case measure => simp [intOf]
          case rel => exact ⟨s.size + 1, out ++ [wd], ByteArray.empty, by go_num, rfl, by omega, by show 0 ≤ _; omega, by simp; omega, HO6, HE6, Lib.hid (.inr ⟨rfl, HN.out.symm⟩)⟩
    · have hd : Hid (dataL out = wordsL s.data.toList) := Lib.hid (by
        rcases HW.out with h | ⟨_, h⟩
        · exact absurd h.1 hlt
        · exact h)
      go_wp2_with fail
      go_ret
      exact ⟨⟨_, out, rfl, HO.out, hd.out, by omega⟩, HE.out⟩
end Go.Proofs.YtdnmpkdnfockgaaGreatDoor
