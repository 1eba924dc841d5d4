/-
  The words of a text, and what policy.Parse makes of them, over plain lists.
-/
import Derived.Test.YtdnmpkdnfockgaaGreatDoorParse
namespace Go.Proofs.YtdnmpkdnfockgaaGreatDoor
open Go.RowKit

/-! The pieces between blanks. -/
def splitL : List UInt8 → List (List UInt8)
  | [] => [[]]
  | b :: l => if b = 32 then [] :: splitL l else match splitL l with
    | [] => [[b]]
    | x :: xs => (b :: x) :: xs
theorem splitL_blank (l : List UInt8) : splitL (32 :: l) = [] :: splitL l := by rw [splitL, if_pos rfl]
theorem splitL_byte {b : UInt8} (h : b ≠ 32) {l x : List UInt8} {xs : List (List UInt8)} (hl : splitL l = x :: xs) : splitL (b :: l) = (b :: x) :: xs := by
  rw [splitL, if_neg h, hl]
theorem splitL_ne (l : List UInt8) : ∃ x xs, splitL l = x :: xs := by
  induction l with
  | nil => exact ⟨_, _, rfl⟩
  | cons b l ih =>
    obtain ⟨x, xs, e⟩ := ih
    by_cases h : b = 32
    · subst h; exact ⟨_, _, splitL_blank l⟩
    · exact ⟨_, _, splitL_byte h e⟩
theorem index_one_eq (c : UInt8) (l : List UInt8) : Lib.index (c :: l) [c] = 0 := by rw [Lib.index]; simp [List.isPrefixOf]
theorem index_one_ne {b c : UInt8} (h : b ≠ c) (l : List UInt8) : Lib.index (b :: l) [c] = if Lib.index l [c] = -1 then -1 else Lib.index l [c] + 1 := by
  have hp : ([c] : List UInt8).isPrefixOf (b :: l) = false := by simp [List.isPrefixOf, Ne.symm h]
  rw [Lib.index, hp]
  simp
theorem splitK_L : ∀ (l : List UInt8), Lib.splitK [32] 0 (Lib.count l [32]) l = splitL l
  | [] => by rw [Lib.count_miss (by simp [Lib.index])]; rfl
  | b :: l => by
    have ih := splitK_L l
    by_cases h : b = 32
    · subst h
      rw [Lib.count_cons_eq, Nat.add_comm, Lib.splitK, index_one_eq, splitL_blank, ← ih]
      rfl
    · rw [Lib.count_cons_ne b 32 l h]
      by_cases hm : Lib.index l [32] = -1
      · rw [Lib.count_miss hm] at ih ⊢
        rw [Lib.splitK] at ih ⊢
        exact (splitL_byte h ih.symm).symm
      · have hge := Lib.index_ge l [32]
        obtain ⟨j, hj⟩ : ∃ j : Nat, Lib.index l [32] = j := ⟨(Lib.index l [32]).toNat, by omega⟩
        rw [Lib.count_hit (by simp) hj, Nat.add_comm] at ih ⊢
        rw [Lib.splitK, index_one_ne h, if_neg hm]
        rw [Lib.splitK, hj] at ih
        have e1 : ((j : Int) == -1) = false := by rw [beq_eq_false_iff_ne]; omega
        have e2 : (((j : Int) + 1) == -1) = false := by rw [beq_eq_false_iff_ne]; omega
        have e3 : ((j : Int) + 1).toNat = j + 1 := by omega
        rw [hj, e2, e3]
        rw [e1] at ih
        simp only [Bool.false_eq_true, if_false, Int.toNat_natCast, Nat.add_zero] at ih ⊢
        refine Eq.trans ?_ (splitL_byte h ih.symm).symm
        simp
theorem splitF_data (s : ByteArray) : (splitF s).map (·.data.toList) = splitL s.data.toList := by
  unfold splitF
  rw [Lib.splitB_data]
  exact splitK_L s.data.toList

def full (x : List UInt8) : Bool := !x.isEmpty
def wordsL (l : List UInt8) : List (List UInt8) := (splitL l).filter full
theorem words_blank (l : List UInt8) : wordsL (32 :: l) = wordsL l := by
  unfold wordsL; rw [splitL_blank]; rfl
theorem split_word : ∀ (x : List UInt8), (32 : UInt8) ∉ x → ∀ l, splitL (x ++ 32 :: l) = x :: splitL l
  | [], _, l => splitL_blank l
  | b :: x, h, l => by
    have hb : b ≠ 32 := fun e => h (e ▸ List.mem_cons_self)
    exact splitL_byte hb (split_word x (fun hx => h (List.mem_cons_of_mem _ hx)) l)
theorem split_last : ∀ (x : List UInt8), (32 : UInt8) ∉ x → splitL x = [x]
  | [], _ => rfl
  | b :: x, h => by
    have hb : b ≠ 32 := fun e => h (e ▸ List.mem_cons_self)
    exact splitL_byte hb (split_last x (fun hx => h (List.mem_cons_of_mem _ hx)))
theorem words_word {x : List UInt8} (h0 : x ≠ []) (h : (32 : UInt8) ∉ x) (l : List UInt8) : wordsL (x ++ 32 :: l) = x :: wordsL l := by
  unfold wordsL
  rw [split_word x h l, List.filter_cons_of_pos]
  simp [full, h0]
theorem words_last {x : List UInt8} (h0 : x ≠ []) (h : (32 : UInt8) ∉ x) : wordsL x = [x] := by
  unfold wordsL
  rw [split_last x h, List.filter_cons_of_pos]
  · rfl
  · simp [full, h0]
theorem words_nil : wordsL [] = [] := rfl

/-! A number. -/
def digitsGo : Int → List UInt8 → Option Int
  | n, [] => some n
  | n, b :: bs => if b.toNat < 48 ∨ 57 < b.toNat then none else digitsGo (10 * n + ((b.toNat : Int) - 48)) bs
def numR (bs : List UInt8) : Int :=
  if bs = [] ∨ 4 < bs.length ∨ (1 < bs.length ∧ bs.head? = some 48) then -1 else
  match digitsGo 0 bs with
  | none => -1
  | some n => if 1000 < n then -1 else n

theorem go_ge : ∀ (bs : List UInt8) (m n : Int), 0 ≤ m → digitsGo m bs = some n → m ≤ n
  | [], m, n, _, h => by injection h with h; omega
  | b :: bs, m, n, h0, h => by
    rw [digitsGo] at h
    split at h
    · cases h
    · have := go_ge bs _ n (by omega) h
      omega
theorem dec_snoc {m : Nat} (h : 0 < m) {d : Nat} (hd : d < 10) : Lib.decDigits (10 * m + d) = Lib.decDigits m ++ [UInt8.ofNat (48 + d)] := by
  rw [Lib.decDigits, dif_neg (by omega), show (10 * m + d) / 10 = m from by omega, show (10 * m + d) % 10 = d from by omega]
theorem go_dec : ∀ (bs : List UInt8) (m : Nat) (n : Int), 0 < m → digitsGo m bs = some n → Lib.decDigits n.toNat = Lib.decDigits m ++ bs
  | [], m, n, _, h => by injection h with h; subst h; simp
  | b :: bs, m, n, h0, h => by
    rw [digitsGo] at h
    split at h
    · cases h
    · rename_i hb
      have e : 10 * (m : Int) + ((b.toNat : Int) - 48) = ((10 * m + (b.toNat - 48) : Nat) : Int) := by omega
      rw [e] at h
      rw [go_dec bs _ n (by omega) h, dec_snoc h0 (by omega), List.append_assoc, List.singleton_append]
      congr 2
      rw [show 48 + (b.toNat - 48) = b.toNat from by omega]
      simp
theorem byte48 {b : UInt8} (h : b.toNat = 48) : b = 48 := UInt8.toNat_inj.1 h
theorem go_dec0 {bs : List UInt8} {n : Int} (h0 : bs ≠ []) (h1 : ¬ (1 < bs.length ∧ bs.head? = some 48)) (h : digitsGo 0 bs = some n) : Lib.decDigits n.toNat = bs := by
  cases bs with
  | nil => exact absurd rfl h0
  | cons b bs =>
    rw [digitsGo] at h
    split at h
    · cases h
    · rename_i hb
      have e : 10 * (0 : Int) + ((b.toNat : Int) - 48) = ((b.toNat - 48 : Nat) : Int) := by omega
      rw [e] at h
      have hd : Lib.decDigits (b.toNat - 48) = [b] := by
        rw [Lib.decDigits, dif_pos (by omega), show 48 + (b.toNat - 48) = b.toNat from by omega]
        simp
      by_cases hz : b.toNat = 48
      · cases bs with
        | nil =>
          injection h with h
          subst h
          simpa using hd
        | cons c cs => exact absurd ⟨by simp, by simp [byte48 hz]⟩ h1
      · rw [go_dec bs _ n (by omega) h, hd]
        rfl
theorem go_app : ∀ (xs ys : List UInt8) (m n : Int), digitsGo m xs = some n → digitsGo m (xs ++ ys) = digitsGo n ys
  | [], ys, m, n, h => by injection h with h; subst h; rfl
  | b :: xs, ys, m, n, h => by
    rw [digitsGo] at h
    rw [List.cons_append, digitsGo]
    split at h
    · cases h
    · rw [if_neg (by assumption)]; exact go_app xs ys _ n h
theorem go_bad : ∀ (xs ys : List UInt8) (c : UInt8) (m : Int), (c.toNat < 48 ∨ 57 < c.toNat) → digitsGo m (xs ++ c :: ys) = none
  | [], ys, c, m, h => by rw [List.nil_append, digitsGo, if_pos h]
  | b :: xs, ys, c, m, h => by
    rw [List.cons_append, digitsGo]
    split
    · rfl
    · exact go_bad xs ys c _ h
theorem ofNat_digit {d : Nat} (h : d < 10) : (UInt8.ofNat (48 + d)).toNat = 48 + d := by
  have : d = 0 ∨ d = 1 ∨ d = 2 ∨ d = 3 ∨ d = 4 ∨ d = 5 ∨ d = 6 ∨ d = 7 ∨ d = 8 ∨ d = 9 := by omega
  rcases this with rfl | rfl | rfl | rfl | rfl | rfl | rfl | rfl | rfl | rfl <;> rfl
theorem dec_go (n : Nat) : digitsGo 0 (Lib.decDigits n) = some (n : Int) := by
  induction n using Nat.strongRecOn with
  | _ n ih =>
    rw [Lib.decDigits]
    split
    · rename_i h
      rw [digitsGo, ofNat_digit h, if_neg (by omega), digitsGo]
      congr 1
      omega
    · rename_i h
      rw [go_app _ _ _ _ (ih (n / 10) (by omega)), digitsGo, ofNat_digit (Nat.mod_lt _ (by decide)), if_neg (by have := Nat.mod_lt n (show 10 > 0 by decide); omega), digitsGo]
      congr 1
      omega
theorem dec_ne (n : Nat) : Lib.decDigits n ≠ [] := by
  rw [Lib.decDigits]
  split <;> simp
theorem dec_len4 {n : Nat} (h : n ≤ 1000) : (Lib.decDigits n).length ≤ 4 := by
  rw [Lib.decDigits]
  split
  · simp
  · rw [Lib.decDigits]
    split
    · simp
    · rw [Lib.decDigits]
      split
      · simp
      · rw [Lib.decDigits, dif_pos (by omega)]
        simp
theorem dec_head (n : Nat) : ¬ (1 < (Lib.decDigits n).length ∧ (Lib.decDigits n).head? = some 48) := by
  have key : ∀ n : Nat, 0 < n → (Lib.decDigits n).head? ≠ some 48 := by
    intro n
    induction n using Nat.strongRecOn with
    | _ n ih =>
      intro hn
      rw [Lib.decDigits]
      split
      · rename_i h
        intro e
        have : UInt8.ofNat (48 + n) = 48 := by simpa using e
        have := congrArg UInt8.toNat this
        rw [ofNat_digit h] at this
        have h48 : (48 : UInt8).toNat = 48 := rfl
        omega
      · rename_i h
        have h1 := ih (n / 10) (by omega) (by omega)
        obtain ⟨c, cs, e⟩ := List.exists_cons_of_ne_nil (dec_ne (n / 10))
        rw [e] at h1 ⊢
        exact h1
  rintro ⟨h1, h2⟩
  by_cases h : n = 0
  · subst h
    rw [Lib.decDigits] at h1
    simp at h1
  · exact key n (by omega) h2
theorem num_dec {n : Nat} (h : n ≤ 1000) : numR (Lib.decDigits n) = n := by
  have h1 := dec_ne n
  have h2 := dec_len4 h
  have h3 := dec_head n
  unfold numR
  rw [if_neg (by rintro (e | e | e); exact h1 e; omega; exact h3 e), dec_go]
  show (if 1000 < (n : Int) then -1 else (n : Int)) = n
  rw [if_neg (by omega)]
theorem num_bad (xs ys : List UInt8) {c : UInt8} (h : c.toNat < 48 ∨ 57 < c.toNat) : numR (xs ++ c :: ys) = -1 := by
  unfold numR
  rw [go_bad xs ys c 0 h]
  split <;> rfl
theorem num_le (bs : List UInt8) : numR bs ≤ 1000 := by
  unfold numR
  split
  · decide
  · split
    · decide
    · split
      · decide
      · omega
theorem num_ge (bs : List UInt8) : -1 ≤ numR bs := by
  unfold numR
  split
  · decide
  · split
    · decide
    · rename_i n e
      have := go_ge bs 0 n (by decide) e
      split <;> omega
theorem num_some {bs : List UInt8} (h : 0 ≤ numR bs) : digitsGo 0 bs = some (numR bs) ∧ Lib.decDigits (numR bs).toNat = bs := by
  unfold numR at h ⊢
  split at h
  · omega
  · rename_i hc
    rw [if_neg hc]
    split at h
    · omega
    · rename_i n e
      split at h
      · omega
      · rename_i hn
        rw [e]
        refine ⟨?_, go_dec0 (fun e => hc (.inl e)) (fun e => hc (.inr (.inr e))) (e.trans ?_)⟩ <;> simp [hn]
theorem bytesI_map (s : ByteArray) : bytesI s = s.data.toList.map (fun b => (b.toNat : Int)) := by
  unfold bytesI
  apply List.ext_getElem
  · rw [List.length_map, List.length_range, List.length_map, Lib.size_eq]
  · intro i h1 h2
    rw [List.length_map] at h2
    rw [List.getElem_map, List.getElem_map, List.getElem_range]
    unfold byteAt
    rw [List.getD_eq_getElem?_getD, List.getElem?_eq_getElem h2]
    rfl
theorem countGo_of : ∀ (bs : List UInt8) (m n : Int), 0 ≤ m → n ≤ 1000 → digitsGo m bs = some n → countGo m (bs.map fun b => (b.toNat : Int)) = some n
  | [], m, n, _, _, h => h
  | b :: bs, m, n, h0, h1, h => by
    have hge := go_ge _ _ _ h0 h
    rw [digitsGo] at h
    rw [List.map_cons, countGo]
    split at h
    · cases h
    · rw [if_neg (by omega)]
      exact countGo_of bs _ n (by omega) h1 h
theorem digits_of : ∀ (bs : List UInt8) (m n : Int), countGo m (bs.map fun b => (b.toNat : Int)) = some n → digitsGo m bs = some n
  | [], m, n, h => h
  | b :: bs, m, n, h => by
    rw [List.map_cons, countGo] at h
    rw [digitsGo]
    split at h
    · cases h
    · rw [if_neg (by omega)]
      exact digits_of bs _ n h
/-- What policy.count tells of a text, in the document's number. -/
theorem count_num (s : ByteArray) : (countF s).2 = decide (0 ≤ numR s.data.toList) ∧ (0 ≤ numR s.data.toList → (countF s).1 = numR s.data.toList) := by
  by_cases h : 0 ≤ numR s.data.toList
  · obtain ⟨h1, h2⟩ := num_some h
    have hl := num_le s.data.toList
    have hc : countF s = (numR s.data.toList, true) := by
      unfold countF
      rw [bytesI_map, countGo_of _ _ _ (by decide) hl h1]
      dsimp only
      rw [decide_eq_true hl, Lib.toList_data, Lib.itoa, if_neg (by omega), h2]
      simp
    rw [hc]
    exact ⟨(decide_eq_true h).symm, fun _ => rfl⟩
  · refine ⟨?_, fun h' => absurd h' h⟩
    rw [decide_eq_false h]
    unfold countF
    split
    · rfl
    · rename_i n e
      rw [bytesI_map] at e
      have hd := digits_of _ _ _ e
      have hn := go_ge _ _ _ (by decide) hd
      by_cases hle : n ≤ 1000
      · by_cases hi : Lib.itoa n = s.data.toList
        · exfalso
          rw [Lib.itoa, if_neg (by omega)] at hi
          have := num_dec (n := n.toNat) (by omega)
          rw [hi] at this
          omega
        · rw [Lib.toList_data]
          simp [hi]
      · simp [hle]

/-! A letter. -/
def foldB (b : UInt8) : UInt8 := if 65 ≤ b.toNat ∧ b.toNat ≤ 90 then UInt8.ofNat (b.toNat + 32) else b
def tierR (b : UInt8) : Int := if b = 100 ∨ b = 68 then 0 else if b = 119 ∨ b = 87 then 1 else if b = 109 ∨ b = 77 then 2 else if b = 121 ∨ b = 89 then 3 else -1
set_option maxRecDepth 100000 in
theorem foldC_byte : ∀ k : Fin 256, UInt8.ofNat (foldC ((k.val : Int))).toNat = foldB (UInt8.ofNat k.val) := by decide
theorem foldC_b (b : UInt8) : UInt8.ofNat (foldC (b.toNat : Int)).toNat = foldB b := by
  have h := foldC_byte ⟨b.toNat, b.toNat_lt⟩
  simpa using h
theorem foldS_data (s : ByteArray) : (foldS s).data.toList = s.data.toList.map foldB := by
  unfold foldS
  have h := Lib.strOfNums_toList ((bytesI s).map foldC)
  rw [Lib.toList_data] at h
  rw [h, bytesI_map]
  unfold Lib.bytesOf
  rw [List.map_map, List.map_map]
  exact List.map_congr_left fun b _ => foldC_b b
theorem fold_digit (b : UInt8) : ((foldB b).toNat < 48 ∨ 57 < (foldB b).toNat ↔ b.toNat < 48 ∨ 57 < b.toNat) ∧ (¬ (b.toNat < 48 ∨ 57 < b.toNat) → foldB b = b) := by
  unfold foldB
  split
  · rename_i h
    have e : (UInt8.ofNat (b.toNat + 32)).toNat = b.toNat + 32 := by
      rw [UInt8.toNat_ofNat']
      omega
    rw [e]
    omega
  · exact ⟨Iff.rfl, fun _ => rfl⟩
theorem go_fold : ∀ (bs : List UInt8) (m : Int), digitsGo m (bs.map foldB) = digitsGo m bs
  | [], _ => rfl
  | b :: bs, m => by
    obtain ⟨h1, h2⟩ := fold_digit b
    rw [List.map_cons, digitsGo, digitsGo]
    by_cases h : b.toNat < 48 ∨ 57 < b.toNat
    · rw [if_pos h, if_pos (h1.2 h)]
    · rw [if_neg h, if_neg (fun e => h (h1.1 e)), h2 h]
      exact go_fold bs _
theorem num_fold (bs : List UInt8) : numR (bs.map foldB) = numR bs := by
  unfold numR
  have e1 : (bs.map foldB = []) = (bs = []) := by simp
  have e2 : ((bs.map foldB).head? = some 48) = (bs.head? = some 48) := by
    cases bs with
    | nil => rfl
    | cons b bs =>
      obtain ⟨h1, h2⟩ := fold_digit b
      simp only [List.map_cons, List.head?_cons, Option.some.injEq]
      by_cases h : b.toNat < 48 ∨ 57 < b.toNat
      · apply propext
        constructor
        · intro e
          have := h1.2 h
          rw [e] at this
          have h48 : (48 : UInt8).toNat = 48 := rfl
          omega
        · intro e
          rw [e] at h
          have h48 : (48 : UInt8).toNat = 48 := rfl
          omega
      · rw [h2 h]
  simp only [e1, e2, List.length_map, go_fold]
set_option maxRecDepth 100000 in
theorem tier_ascii : ∀ k : Fin 256, Lib.index tiers4 [foldB (UInt8.ofNat k.val)] = tierR (UInt8.ofNat k.val) := by decide
theorem tier_b (b : UInt8) : Lib.index tiers4 [foldB b] = tierR b := by
  have h := tier_ascii ⟨b.toNat, b.toNat_lt⟩
  simpa using h
set_option maxRecDepth 100000 in
theorem tierR_hi {b : UInt8} (h : 128 ≤ b.toNat) : tierR b = -1 := by
  have key : ∀ k : Fin 256, 128 ≤ k.val → tierR (UInt8.ofNat k.val) = -1 := by decide
  have := key ⟨b.toNat, b.toNat_lt⟩ h
  simpa using this
theorem tierR_lt (b : UInt8) : -1 ≤ tierR b ∧ tierR b < 4 := by
  unfold tierR
  repeat' split
  all_goals decide
theorem index_hi {b : UInt8} (h : 128 ≤ b.toNat) (r : List UInt8) : Lib.index tiers4 (b :: r) = -1 := by
  have e : ∀ k : UInt8, k.toNat < 128 → (b == k) = false := by
    intro k hk
    rw [beq_eq_false_iff_ne]
    intro e
    subst e
    omega
  simp [tiers4, Lib.index, List.isPrefixOf, e 100 (by decide), e 119 (by decide), e 109 (by decide), e 121 (by decide)]
theorem first1_data {x : ByteArray} {c : UInt8} {ds : List UInt8} (hx : x.data.toList = c :: ds) : (c.toNat < 128 → (first1 x).data.toList = [c]) ∧ ∃ r, (first1 x).data.toList = c :: r := by
  have hsz : x.size = ds.length + 1 := by rw [Lib.size_eq, hx]; rfl
  have hw := Lib.decode_width_pos x 0 (by omega)
  constructor
  · intro hc
    have hd : Utf8.decode x 0 = (c.toNat, 1) := by
      rw [Lib.decode_N, hx]
      exact Lib.decodeN_ascii _ _ _ _ _ hc
    unfold first1
    rw [hd]
    dsimp only
    split
    · rw [Lib.extract_from_zero, hx]; rfl
    · have : ds = [] := List.eq_nil_of_length_eq_zero (by omega)
      rw [hx, this]
  · unfold first1
    split
    · rw [Lib.extract_from_zero, hx]
      obtain ⟨k, hk⟩ : ∃ k, (Utf8.decode x 0).2 = k + 1 := ⟨(Utf8.decode x 0).2 - 1, by omega⟩
      rw [hk]
      exact ⟨_, rfl⟩
    · exact ⟨_, hx⟩
theorem foldB_hi {b : UInt8} (h : 128 ≤ b.toNat) : foldB b = b := by unfold foldB; rw [if_neg (by omega)]

/-- One word: what Parse finds in it. -/
theorem word_tier {x : ByteArray} {c : UInt8} {ds : List UInt8} (hx : x.data.toList = c :: ds) :
    tierF x = tierR c ∧ (0 ≤ tierR c → (letterF x).data.toList = [foldB c] ∧ (restF x).data.toList = ds.map foldB) := by
  obtain ⟨h1, r, h2⟩ := first1_data hx
  by_cases hc : c.toNat < 128
  · have hl : (letterF x).data.toList = [foldB c] := by unfold letterF; rw [foldS_data, h1 hc]; rfl
    refine ⟨?_, fun _ => ⟨hl, ?_⟩⟩
    · unfold tierF; rw [hl]; exact tier_b c
    · unfold restF
      rw [hl, foldS_data, hx]
      simp [Lib.trimPrefix, Lib.hasPrefix, List.isPrefixOf]
  · have ht := tierR_hi (b := c) (by omega)
    refine ⟨?_, fun h => absurd h (by omega)⟩
    rw [ht]
    unfold tierF letterF
    rw [foldS_data, h2, List.map_cons, foldB_hi (by omega)]
    exact index_hi (by omega) _

/-! The document's fold over the words. -/
def stepR : Option Pol → List UInt8 → Option Pol
  | none, _ => none
  | some q, x => match x with
    | [] => some q
    | c :: ds => if tierR c < 0 ∨ numR ds < 0 ∨ 0 ≤ q.nth (tierR c).toNat then none else some (q.put (tierR c) (numR ds))
def lowP : Pol := ⟨-1, -1, -1, -1⟩
def Pol.pos (q : Pol) : Pol := ⟨max q.d 0, max q.w 0, max q.m 0, max q.y 0⟩
def parseR (l : List UInt8) : Option Pol := ((wordsL l).foldl stepR (some lowP)).map Pol.pos

theorem contains_one (s : List UInt8) (c : UInt8) : Lib.contains s [c] = decide (c ∈ s) := by
  induction s with
  | nil => rfl
  | cons b l ih =>
    unfold Lib.contains at ih ⊢
    by_cases h : b = c
    · subst h; rw [index_one_eq]; simp
    · rw [index_one_ne h]
      have h' : ¬ c = b := fun e => h e.symm
      simp only [List.mem_cons, h', false_or]
      rw [← ih]
      have := Lib.index_ge l [c]
      split
      · rename_i e; rw [e]
      · congr 1
        apply propext
        omega
def Seen (seen : ByteArray) (q : Pol) : Prop := ∀ c : UInt8, 0 ≤ tierR c → (foldB c ∈ seen.data.toList ↔ 0 ≤ q.nth (tierR c).toNat)
def Sim : Option (Pol × ByteArray) → Option Pol → Prop
  | none, none => True
  | some (p, seen), some q => p = q.pos ∧ Seen seen q
  | _, _ => False
theorem fold_tier {c e : UInt8} (hc : 0 ≤ tierR c) (he : 0 ≤ tierR e) : foldB c = foldB e ↔ tierR c = tierR e := by
  have hcase : ∀ b : UInt8, 0 ≤ tierR b → b = 100 ∨ b = 68 ∨ b = 119 ∨ b = 87 ∨ b = 109 ∨ b = 77 ∨ b = 121 ∨ b = 89 := by
    intro b hb
    unfold tierR at hb
    repeat' split at hb
    all_goals first | omega | (rename_i h; rcases h with h | h <;> simp [h])
  rcases hcase c hc with rfl | rfl | rfl | rfl | rfl | rfl | rfl | rfl <;> rcases hcase e he with rfl | rfl | rfl | rfl | rfl | rfl | rfl | rfl <;> decide
theorem put_nth (q : Pol) (t k : Nat) (n : Int) (ht : t < 4) (hk : k < 4) : (q.put t n).nth k = if t = k then n else q.nth k := by
  have h1 : t = 0 ∨ t = 1 ∨ t = 2 ∨ t = 3 := by omega
  have h2 : k = 0 ∨ k = 1 ∨ k = 2 ∨ k = 3 := by omega
  rcases h1 with rfl | rfl | rfl | rfl <;> rcases h2 with rfl | rfl | rfl | rfl <;> rfl
theorem put_pos (q : Pol) (t : Nat) (n : Int) (hn : 0 ≤ n) : (q.put t n).pos = q.pos.put t n := by
  unfold Pol.put
  split
  · simp [Pol.pos, Int.max_eq_left hn]
  · split
    · simp [Pol.pos, Int.max_eq_left hn]
    · split
      · simp [Pol.pos, Int.max_eq_left hn]
      · split
        · simp [Pol.pos, Int.max_eq_left hn]
        · rfl
theorem sim_step {a : Option (Pol × ByteArray)} {b : Option Pol} (h : Sim a b) (x : ByteArray) : Sim (stepP a x) (stepR b x.data.toList) := by
  match a, b, h with
  | none, none, _ => exact trivial
  | some (p, seen), some q, h =>
    obtain ⟨rfl, hs⟩ := h
    cases hx : x.data.toList with
    | nil =>
      have h0 : x.size = 0 := by rw [Lib.size_eq, hx]; rfl
      rw [step_nil h0]
      exact ⟨rfl, hs⟩
    | cons c ds =>
      have h0 : 0 < x.size := by rw [Lib.size_eq, hx]; simp
      obtain ⟨ht, hr⟩ := word_tier hx
      have hiff : badP seen x ↔ (tierR c < 0 ∨ numR ds < 0 ∨ 0 ≤ q.nth (tierR c).toNat) := by
        unfold badP
        rw [ht]
        by_cases h1 : tierR c < 0
        · exact ⟨fun _ => .inl h1, fun _ => .inr (.inl h1)⟩
        · obtain ⟨hl, hrest⟩ := hr (by omega)
          obtain ⟨hc1, hc2⟩ := count_num (restF x)
          rw [hrest, num_fold] at hc1
          rw [hl, contains_one, hc1, decide_eq_true_eq, hs c (by omega)]
          constructor
          · rintro (h | h | h)
            · exact .inr (.inl (by simpa using h))
            · exact .inl h
            · exact .inr (.inr h)
          · rintro (h | h | h)
            · exact .inr (.inl h)
            · exact .inl (by simpa using h)
            · exact .inr (.inr h)
      by_cases hb : badP seen x
      · rw [step_bad h0 hb, stepR, if_pos (hiff.1 hb)]
        exact trivial
      · rw [step_go h0 hb, stepR, if_neg (fun e => hb (hiff.2 e))]
        have hnb : ¬ (tierR c < 0 ∨ numR ds < 0 ∨ 0 ≤ q.nth (tierR c).toNat) := fun e => hb (hiff.2 e)
        obtain ⟨hl, hrest⟩ := hr (by omega)
        obtain ⟨hc1, hc2⟩ := count_num (restF x)
        rw [hrest, num_fold] at hc2
        have hlt := tierR_lt c
        obtain ⟨t, htt⟩ : ∃ t : Nat, tierR c = t := ⟨(tierR c).toNat, by omega⟩
        refine ⟨?_, ?_⟩
        · rw [ht, hc2 (by omega), htt, put_pos _ _ _ (by omega)]
        · intro e he
          have hle := tierR_lt e
          obtain ⟨u, hu⟩ : ∃ u : Nat, tierR e = u := ⟨(tierR e).toNat, by omega⟩
          have hft := fold_tier (c := e) (e := c) he (by omega)
          have hse := hs e he
          rw [ByteArray.data_append, Array.toList_append, hl, List.mem_append, List.mem_singleton, hft, hse]
          have hn0 : 0 ≤ numR ds := by omega
          rw [htt, hu, Int.toNat_natCast, put_nth _ _ _ _ (by omega) (by omega)]
          by_cases hut : t = u
          · subst hut
            rw [if_pos rfl]
            exact ⟨fun _ => hn0, fun _ => .inr rfl⟩
          · rw [if_neg hut]
            exact ⟨fun h => h.resolve_right (fun e => hut (by omega)), .inl⟩
theorem sim_fold (l : List ByteArray) : ∀ {a : Option (Pol × ByteArray)} {b : Option Pol}, Sim a b → Sim (l.foldl stepP a) ((l.map (·.data.toList)).foldl stepR b) := by
  induction l with
  | nil => intro a b h; exact h
  | cons x l ih => intro a b h; exact ih (sim_step h x)
theorem stepR_nil (b : Option Pol) : stepR b [] = b := by cases b <;> rfl
theorem foldR_full (l : List (List UInt8)) : ∀ b, l.foldl stepR b = (l.filter full).foldl stepR b := by
  induction l with
  | nil => intro b; rfl
  | cons x l ih =>
    intro b
    cases x with
    | nil => rw [List.foldl_cons, stepR_nil, ih]; rfl
    | cons c ds => rw [List.filter_cons_of_pos (by rfl), List.foldl_cons, List.foldl_cons, ih]
/-- What Parse comes to is the document's answer. -/
theorem parse_R (s : ByteArray) : parseF s = parseR s.data.toList := by
  have h := sim_fold (splitF s) (a := some (zeroP, ByteArray.empty)) (b := some lowP) ⟨rfl, by
    intro c hc
    have h2 := tierR_lt c
    have : tierR c = 0 ∨ tierR c = 1 ∨ tierR c = 2 ∨ tierR c = 3 := by omega
    constructor
    · intro h; exact absurd h (by simp)
    · intro h
      rcases this with e | e | e | e <;> rw [e] at h <;> exact absurd h (by decide)⟩
  rw [splitF_data, foldR_full] at h
  unfold parseF parseR wordsL
  revert h
  cases (splitF s).foldl stepP (some (zeroP, ByteArray.empty)) with
  | none =>
    cases ((splitL s.data.toList).filter full).foldl stepR (some lowP) with
    | none => intro _; rfl
    | some q => intro h; exact h.elim
  | some a =>
    obtain ⟨p, seen⟩ := a
    cases ((splitL s.data.toList).filter full).foldl stepR (some lowP) with
    | none => intro h; exact h.elim
    | some q => intro h; rw [h.1]; rfl
end Go.Proofs.YtdnmpkdnfockgaaGreatDoor
