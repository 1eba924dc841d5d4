/-
  What policy.latest comes to: of each run of one bucket the first candidate, so many.
-/
import Derived.Test.YtdnmpkdnfockgaaGreatDoorDate
import Derived.Deep.DeepMust
namespace Go.Proofs.YtdnmpkdnfockgaaGreatDoor
open Go.RowKit

structure Lk where
  id : Int
  parent : Int
  name : ByteArray
  time : Int
  ghost : Bool
  pin : Bool
def Lk.enc (x : Lk) : List Value := [.int .i64 x.id, .int .i64 x.parent, .string x.name, .int .u64 x.time, .bool x.ghost, .bool x.pin]
theorem Lk.enc_len (x : Lk) : x.enc.length = 6 := rfl
theorem Lk.one (x : Lk) : ∀ u ∈ x.enc, u.oneCell' = true := by
  intro u hu
  simp [Lk.enc] at hu
  rcases hu with rfl | rfl | rfl | rfl | rfl | rfl <;> rfl
def Lk.timed (x : Lk) : Prop := 0 ≤ x.time ∧ x.time / 86400 ≤ 213503982334601
def encI (n : Int) : List Value := [.int .i64 n]
theorem encI_len (n : Int) : (encI n).length = 1 := rfl
theorem encI_one (n : Int) : ∀ u ∈ encI n, u.oneCell' = true := by
  intro u hu
  simp [encI] at hu
  subst hu
  rfl
theorem info_int : (Tryz.prog.info? 3).map (fun i => (i.zero, i.size, i.bytes)) = some (some (.int .i64 0), 1, 8) := by kernel_rfl
theorem info_link : (Tryz.prog.info? 37).map (fun i => (i.zero, i.size, i.bytes)) = some (some (.agg #[.int .i64 0, .int .i64 0, .string ⟨#[]⟩, .int .u64 0, .bool false, .bool false]), 6, 48) := by kernel_rfl

/-- The six cells of element i, as the walk asks for them. -/
theorem Sl.at6 {w : World} {A : Option Addr} {l : List Lk} (h : Sl Lk.enc 6 w A l) {i : Nat} (hi : i < l.length) : ∃ ad, A = some ad ∧ ad.block < w.heap.size ∧ w.cell? (ad.add (i * 6)) = some (.int .i64 l[i].id) ∧
    w.cell? ⟨(ad.add (i * 6)).block, (ad.add (i * 6)).off + 1, none⟩ = some (.int .i64 l[i].parent) ∧ w.cell? ⟨(ad.add (i * 6)).block, (ad.add (i * 6)).off + 2, none⟩ = some (.string l[i].name) ∧
    w.cell? ⟨(ad.add (i * 6)).block, (ad.add (i * 6)).off + 3, none⟩ = some (.int .u64 l[i].time) ∧ w.cell? ⟨(ad.add (i * 6)).block, (ad.add (i * 6)).off + 4, none⟩ = some (.bool l[i].ghost) ∧
    w.cell? ⟨(ad.add (i * 6)).block, (ad.add (i * 6)).off + 5, none⟩ = some (.bool l[i].pin) := by
  obtain ⟨ad, e, hb, h⟩ := h.get hi
  refine ⟨ad, e, hb, h 0 _ rfl, ?_, ?_, ?_, ?_, ?_⟩
  all_goals rw [← add_pos _ _ _ (by omega)]; exact h _ _ rfl

def lstep (tier many : Int) (s : Option Int × List Int) (x : Lk) : Option Int × List Int :=
  if s.1 = some (bucketF tier x.time) then s else (some (bucketF tier x.time), if (s.2.length : Int) < many then s.2 ++ [x.id] else s.2)
def latF (tier many : Int) (l : List Lk) : List Int := (l.foldl (lstep tier many) (none, [])).2
theorem fold_snoc {α β : Type} (f : β → α → β) (b : β) (l : List α) (k : Nat) (hk : k < l.length) : (l.take (k + 1)).foldl f b = f ((l.take k).foldl f b) l[k] := by
  rw [List.take_succ_eq_append_getElem hk, List.foldl_append]; rfl
theorem lstep_len (tier many : Int) (s : Option Int × List Int) (x : Lk) : (lstep tier many s x).2.length ≤ s.2.length + 1 := by
  unfold lstep
  split
  · omega
  · dsimp only
    split
    · simp
    · omega
theorem lst_len (tier many : Int) (l : List Lk) : ∀ (s : Option Int × List Int), (l.foldl (lstep tier many) s).2.length ≤ s.2.length + l.length := by
  induction l with
  | nil => intro s; exact Nat.le_refl _
  | cons x l ih =>
    intro s
    have h := lstep_len tier many s x
    have h2 := ih (lstep tier many s x)
    rw [List.foldl_cons, List.length_cons]
    omega

theorem lstep_skip {tier many b last : Int} {s : Option Int × List Int} {x : Lk} (hb : bucketF tier x.time = b) (h1 : s.1 = some last) (e : (b == last) = true) : lstep tier many s x = s := by
  have e' : b = last := by simpa using e
  unfold lstep
  rw [if_pos (by rw [hb, h1, e'])]
theorem lstep_go {tier many b : Int} {s : Option Int × List Int} {x : Lk} (hb : bucketF tier x.time = b) (h1 : s.1 = none ∨ ∃ last, s.1 = some last ∧ (b == last) = false) :
    lstep tier many s x = (some b, if (s.2.length : Int) < many then s.2 ++ [x.id] else s.2) := by
  unfold lstep
  rw [hb, if_neg]
  rcases h1 with h | ⟨last, h, e⟩
  · rw [h]; simp
  · have e' : ¬ b = last := by simpa using e
    rw [h]
    simp only [Option.some.injEq]
    exact fun h => e' h.symm

set_option maxHeartbeats 1000000 in
theorem latest_any (A : Option Addr) (c : Nat) (l : List Lk) (tier many : Int) (w : World) (hl : Sl Lk.enc 6 w A l) (hn : l.length ≤ 60) (ht : ∀ x ∈ l, x.timed) :
    Calls Tryz.prog 34 #[.slice A l.length c, .int .i64 tier, .int .i64 many] w fun e w' => (∃ v, e = .returned v ∧ Own encI 3 1 w' w.heap.size v (latF tier many l)) ∧ Ext w w' := by
  have HL := Lib.hid hl
  have HT := Lib.hid ht
  clear hl ht
  go_enter Tryz.func34, Tryz.ntmps34
  go_wp2
  go_loopw [7, 8, 14] (fun v7 v8 v14 wr => ∃ (k : Nat) (last : Int) (s : Option Int × List Int), k ≤ l.length ∧ v14 = .int .i64 k ∧ v8 = .int .i64 last ∧ Hid (s = (l.take k).foldl (lstep tier many) (none, [])) ∧
      Hid (if k = 0 then s.1 = none else s.1 = some last) ∧ Hid (Own encI 3 1 wr w.heap.size v7 s.2) ∧ Hid (Ext w wr)) (fun _ _ v14 _ => l.length - (intOf v14).toNat)
  case atStart => exact ⟨0, 0, (none, []), Nat.zero_le _, rfl, rfl, rfl, rfl, Own.nil, Ext.refl w⟩
  case round =>
    obtain ⟨k, last, s, hk, rfl, rfl, HS, HL1, HO, HE⟩ := hrel
    by_cases hlt : k < l.length
    · have hx := fold_snoc (lstep tier many) (none, []) l k hlt
      rw [← HS.out] at hx
      have HX := Lib.hid hx
      clear hx
      have hslen : s.2.length ≤ 60 := by
        have := lst_len tier many (l.take k) (none, [])
        rw [← HS.out] at this
        simp at this
        omega
      obtain ⟨ad, rfl, hb, c0, c1, c2, c3, c4, c5⟩ := Sl.at6 (HL.out.ext HE.out) hlt
      have htm := HT.out l[k] (List.getElem_mem hlt)
      generalize l[k] = x at *
      obtain ⟨ht0, ht1⟩ := htm
      obtain ⟨b, hbe⟩ : ∃ b, bucketF tier x.time = b := ⟨_, rfl⟩
      have HB := Lib.hid (fun w => bucket_any tier x.time w ht0 ht1)
      rw [hbe] at HB
      have HBE := Lib.hid hbe
      clear hbe
      obtain ⟨A7, c7, rfl, _⟩ := HO.out.slice
      have hcase : k ≤ 0 ∨ (0 < k ∧ (b == last) = true) ∨ (0 < k ∧ (b == last) = false) := by
        cases b == last <;> simp <;> omega
      rcases hcase with hk0 | ⟨hk0, hbl⟩ | ⟨hk0, hbl⟩
      case' inl => have HG := Lib.hid (lstep_go (many := many) HBE.out (.inl (by have := HL1.out; rwa [if_pos (by omega)] at this)))
      case' inr.inr => have HG := Lib.hid (lstep_go (many := many) HBE.out (.inr ⟨last, by have := HL1.out; rwa [if_neg (by omega)] at this, hbl⟩))
      case' inr.inl => have HG := Lib.hid (lstep_skip (many := many) HBE.out (by have := HL1.out; rwa [if_neg (by omega)] at this) hbl)
      all_goals
        go_wp2_with (first
          | (go_at_call 59; refine (HB.out _).mono ?_; rintro e w' ⟨rfl, rfl⟩)
          | (at_builtin; go_must (refine wp_app rfl (.tmp 35) (.tmp 38) 33 rfl Tryz.underlying33 info_int rfl (by decide) encI_len encI_one w.heap.size (.slice A7 s.2.length c7) s.2 rfl ((HO.out.alloc _).alloc _) _ 1 1 [x.id] rfl rfl (Sl.one _ 3 x.id #[.int .i64 x.id] rfl (by simp)) (by simp; omega) (by simp; omega) (by have := HE.out.size; simp; omega) ?_); intro v1 w1 hown1 hg1 _; have HO1 := Lib.hid hown1; have HE1 := Lib.hid (Own.step ((HO.out.alloc _).alloc _) ((HE.out.alloc _).alloc _) hg1); clear hown1 hg1))
      all_goals go_roundw
      all_goals try (case measure => simp [intOf]; omega)
      all_goals first
        | (have hlm : (s.2.length : Int) < many := by assumption
           exact ⟨k + 1, b, (some b, s.2 ++ [x.id]), by omega, by go_num, rfl, (HX.out.trans (HG.out.trans (by rw [if_pos hlm]))).symm, (if_neg (Nat.succ_ne_zero k)).mpr rfl, HO1.out, HE1.out⟩)
        | (have hlm : many ≤ (s.2.length : Int) := by assumption
           exact ⟨k + 1, b, (some b, s.2), by omega, by go_num, rfl, (HX.out.trans (HG.out.trans (by rw [if_neg (by omega)]))).symm, (if_neg (Nat.succ_ne_zero k)).mpr rfl, HO.out.alloc _, HE.out.alloc _⟩)
        | exact ⟨k + 1, last, s, by omega, by go_num, rfl, (HX.out.trans HG.out).symm, (if_neg (Nat.succ_ne_zero k)).mpr (by have := HL1.out; rwa [if_neg (by omega)] at this), HO.out.alloc _, HE.out.alloc _⟩
    · go_wp2
      go_ret
      have hkl : k = l.length := by omega
      refine ⟨⟨_, rfl, ?_⟩, HE.out⟩
      have := HS.out
      rw [hkl, List.take_length] at this
      unfold latF
      rw [← this]
      exact HO.out
end Go.Proofs.YtdnmpkdnfockgaaGreatDoor
