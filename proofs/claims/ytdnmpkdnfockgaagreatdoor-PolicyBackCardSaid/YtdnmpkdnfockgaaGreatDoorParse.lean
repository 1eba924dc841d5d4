/-
  What policy.Parse comes to.
-/
import Derived.Test.YtdnmpkdnfockgaaGreatDoorCount
import Derived.Test.YtdnmpkdnfockgaaGreatDoorPol
import Derived.Test.YtdnmpkdnfockgaaGreatDoorLatest
import Derived.Test.YtdnmpkdnfockgaaGreatDoorName
import Derived.Lib.SplitLaws
import Derived.Lib.IndexMore
import Derived.Lib.Strings
import Derived.Lib.Bytes
namespace Go.Proofs.YtdnmpkdnfockgaaGreatDoor
open Go.RowKit

def encS (s : ByteArray) : List Value := [.string s]
theorem encS_len (s : ByteArray) : (encS s).length = 1 := rfl
def tiers4 : List UInt8 := [100, 119, 109, 121]
def splitF (s : ByteArray) : List ByteArray := Lib.splitB ⟨#[32]⟩ 0 (Lib.countB s ⟨#[32]⟩) s
def SplitC (P : World → Prop) : Prop := ∀ (s : ByteArray) (w : World), P w → s.size ≤ 65536 → Calls Tryz.prog 39 #[.string s, .string ⟨#[32]⟩] w fun e w' => (∃ c, e = .returned (.slice (some ⟨w.heap.size, 0, none⟩) (splitF s).length c) ∧ Sl encS 1 w' (some ⟨w.heap.size, 0, none⟩) (splitF s)) ∧ Ext w w'
def IndexC (P : World → Prop) : Prop := ∀ (sub : ByteArray) (w : World), P w → Calls Tryz.prog 42 #[.string ⟨#[100, 119, 109, 121]⟩, .string sub] w fun e w' => e = .returned (.int .i64 (Lib.index tiers4 sub.data.toList)) ∧ w = w'
def HasC (P : World → Prop) : Prop := ∀ (s sub : ByteArray) (w : World), P w → s.size ≤ 65536 → Calls Tryz.prog 45 #[.string s, .string sub] w fun e w' => e = .returned (.bool (Lib.contains s.data.toList sub.data.toList)) ∧ w = w'
def TrimC : Prop := ∀ (s p : ByteArray) (w : World), Calls Tryz.prog 44 #[.string s, .string p] w fun e w' => e = .returned (.string ⟨(Lib.trimPrefix s.data.toList p.data.toList).toArray⟩) ∧ w = w'
structure LibS (P : World → Prop) : Prop where
  hold : Holdfast P
  itoa : ItoaC P
  split : SplitC P
  index : IndexC P
  has : HasC P
  trim : TrimC

def letterF (x : ByteArray) : ByteArray := foldS (first1 x)
def tierF (x : ByteArray) : Int := Lib.index tiers4 (letterF x).data.toList
def restF (x : ByteArray) : ByteArray := ⟨(Lib.trimPrefix (foldS x).data.toList (letterF x).data.toList).toArray⟩
def Pol.put (p : Pol) (t n : Int) : Pol := if t = 0 then { p with d := n } else if t = 1 then { p with w := n } else if t = 2 then { p with m := n } else if t = 3 then { p with y := n } else p
def badP (seen x : ByteArray) : Prop := (countF (restF x)).2 = false ∨ tierF x < 0 ∨ Lib.contains seen.data.toList (letterF x).data.toList = true
instance (seen x : ByteArray) : Decidable (badP seen x) := by unfold badP; infer_instance
def stepP : Option (Pol × ByteArray) → ByteArray → Option (Pol × ByteArray)
  | none, _ => none
  | some (p, seen), x => if x.size = 0 then some (p, seen) else if badP seen x then none else some (p.put (tierF x) (countF (restF x)).1, seen ++ letterF x)
def zeroP : Pol := ⟨0, 0, 0, 0⟩
def parseF (s : ByteArray) : Option Pol := ((splitF s).foldl stepP (some (zeroP, ByteArray.empty))).map (·.1)

theorem first1_size (x : ByteArray) : (first1 x).size ≤ x.size := by
  unfold first1
  split
  · rw [ByteArray.size_extract]; omega
  · exact Nat.le_refl _
theorem foldS_size (x : ByteArray) : (foldS x).size = x.size := by
  unfold foldS
  have h := Lib.strOfNums_toList ((bytesI x).map foldC)
  rw [Lib.toList_data] at h
  rw [Lib.size_eq, h]
  simp [Lib.bytesOf, bytesI]
theorem splitB_size (sep : ByteArray) : ∀ (k : Nat) (s : ByteArray), ∀ x ∈ Lib.splitB sep 0 k s, x.size ≤ s.size := by
  intro k
  induction k with
  | zero => intro s x hx; rw [Lib.splitB_zero, List.mem_singleton] at hx; rw [hx]; exact Nat.le_refl _
  | succ k ih =>
    intro s x hx
    unfold Lib.splitB at hx
    split at hx
    · rw [List.mem_singleton] at hx; rw [hx]; exact Nat.le_refl _
    · rcases List.mem_cons.1 hx with h | h
      · rw [h, ByteArray.size_extract]; omega
      · have := ih _ x h
        rw [ByteArray.size_extract] at this
        omega
theorem splitF_size (s : ByteArray) : ∀ x ∈ splitF s, x.size ≤ s.size := splitB_size _ _ s
theorem splitF_len (s : ByteArray) : (splitF s).length ≤ s.size + 1 := by
  have h1 := Lib.splitB_length_le ⟨#[32]⟩ 0 (Lib.countB s ⟨#[32]⟩) s
  have h2 := Lib.countB_le ⟨#[32]⟩ (by decide) s.size s (Nat.le_refl _)
  unfold splitF
  omega
theorem foldl_none (l : List ByteArray) : l.foldl stepP none = none := by
  induction l with
  | nil => rfl
  | cons x l ih => rw [List.foldl_cons]; exact ih

theorem Sl.atS {w : World} {A : Option Addr} {l : List ByteArray} (h : Sl encS 1 w A l) {i : Nat} (hi : i < l.length) : ∃ ad, A = some ad ∧ ad.block < w.heap.size ∧ w.cell? (ad.add i) = some (.string l[i]) := by
  obtain ⟨ad, e, hb, h⟩ := h.get hi
  have := h 0 _ rfl
  rw [Nat.mul_one, Nat.add_zero] at this
  exact ⟨ad, e, hb, this⟩
theorem add_off0 (b k : Nat) : (⟨b, 0, none⟩ : Addr).add k = ⟨b, k, none⟩ := by unfold Addr.add; split <;> simp_all
theorem Sl.far {α : Type} {enc : α → List Value} {k : Nat} {w : World} {ad : Addr} {xs : List α} (h : Sl enc k w (some ad) xs) {p : Addr} (hp : p.block ≠ ad.block) (u : Value) : Sl enc k (w.setCell p u) (some ad) xs := by
  rcases h with h | ⟨ad', e, hb, h⟩
  · exact .inl h
  · injection e with e
    subst e
    refine .inr ⟨ad, rfl, by simpa using hb, fun i x hx j v hv => ?_⟩
    rw [World.cell?_setCell_other _ _ _ _ (fun e => hp (by rw [e, add_block]))]
    exact h i x hx j v hv
theorem Blk4.cells {w : World} {g : Nat} {p : Pol} (h : Blk w g 63 p.cells) : w.cell? ⟨g, 0, none⟩ = some (.int .i64 p.d) ∧ w.cell? ⟨g, 1, none⟩ = some (.int .i64 p.w) ∧ w.cell? ⟨g, 2, none⟩ = some (.int .i64 p.m) ∧ w.cell? ⟨g, 3, none⟩ = some (.int .i64 p.y) :=
  ⟨h.cell 0, h.cell 1, h.cell 2, h.cell 3⟩

theorem step_nil {p : Pol} {seen x : ByteArray} (h : x.size = 0) : stepP (some (p, seen)) x = some (p, seen) := by simp [stepP, h]
theorem step_bad {p : Pol} {seen x : ByteArray} (h : 0 < x.size) (hb : badP seen x) : stepP (some (p, seen)) x = none := by
  rw [stepP, if_neg (by omega), if_pos hb]
theorem step_go {p : Pol} {seen x : ByteArray} (h : 0 < x.size) (hb : ¬ badP seen x) : stepP (some (p, seen)) x = some (p.put (tierF x) (countF (restF x)).1, seen ++ letterF x) := by
  rw [stepP, if_neg (by omega), if_neg hb]
theorem first1_pos {x : ByteArray} (h : 0 < x.size) : 0 < (first1 x).size := by
  unfold first1
  split
  · rw [ByteArray.size_extract]
    have := Lib.decode_width_pos x 0 h
    omega
  · exact h
theorem letterF_pos {x : ByteArray} (h : 0 < x.size) : 0 < (letterF x).size := by unfold letterF; rw [foldS_size]; exact first1_pos h
theorem letterF_size (x : ByteArray) : (letterF x).size ≤ x.size := by unfold letterF; rw [foldS_size]; exact first1_size x
theorem tierF_room {x : ByteArray} (h : 0 ≤ tierF x) : tierF x + (letterF x).size ≤ 4 := by
  have := Lib.index_room tiers4 (letterF x).data.toList h
  rw [Lib.size_eq]
  exact this

def ParseOut (r : Option Pol) (e : Ending) : Prop :=
  match r with
  | some p => e = .returned (.tuple #[.agg #[.int .i64 p.d, .int .i64 p.w, .int .i64 p.m, .int .i64 p.y], .int .i64 0])
  | none => e = .returned (.tuple #[.agg #[.int .i64 0, .int .i64 0, .int .i64 0, .int .i64 0], .int .i64 2])
set_option maxRecDepth 100000 in
set_option maxHeartbeats 2000000 in
theorem parse_any {P : World → Prop} (L : LibS P) (s : ByteArray) (w : World) (hp : P w) (hs : s.size ≤ 8000) :
    Calls Tryz.prog 21 #[.string s] w fun e w' =>
      ParseOut (parseF s) e ∧ Ext w w' := by
  have HL := Lib.hid L
  have HPW := Lib.hid (fun w1 (h : Ext w w1) => L.hold _ _ hp h)
  clear L hp
  go_enter Tryz.func21, Tryz.ntmps21
  go_wp2_with fail
  have E0 := Lib.hid (((Ext.refl w).alloc (.cells #[.int .i64 0, .int .i64 0, .int .i64 0, .int .i64 0] 23)).alloc (.cells #[.int .i64 0, .int .i64 0, .int .i64 0, .int .i64 0] 63))
  have B2 := Lib.hid ((Blk.new w 23 #[.int .i64 0, .int .i64 0, .int .i64 0, .int .i64 0]).alloc (.cells #[.int .i64 0, .int .i64 0, .int .i64 0, .int .i64 0] 63))
  have B4 := Lib.hid (Blk.at_ (w.alloc (.cells #[.int .i64 0, .int .i64 0, .int .i64 0, .int .i64 0] 23)) 63 #[.int .i64 0, .int .i64 0, .int .i64 0, .int .i64 0] (g := w.heap.size + 1) (by simp))
  refine (HL.out.split s _ (HPW.out _ E0.out) (by omega)).mono ?_
  rintro e w1 ⟨⟨c, rfl, hsl⟩, hx1⟩
  have E1 := Lib.hid (E0.out.trans hx1)
  have C2 := Lib.hid (B2.out.ext hx1)
  have C4 := Lib.hid (B4.out.ext hx1)
  have hsl2 : Sl encS 1 w1 (some ⟨w.heap.size + 1 + 1, 0, none⟩) (splitF s) := by simpa using hsl
  have HS := Lib.hid hsl2
  have hlen := splitF_len s
  have HSZ := Lib.hid (splitF_size s)
  have HPF : Hid (parseF s = ((splitF s).foldl stepP (some (zeroP, ByteArray.empty))).map (·.1)) := Lib.hid rfl
  clear E0 B2 B4 hx1 hsl hsl2
  generalize splitF s = ws at *
  have hw1 : w.heap.size + 1 < w1.heap.size := C4.out.lt
  go_wp2_with fail
  go_loopw [15, 5] (fun v15 v5 wr => ∃ (k : Nat) (p : Pol) (seen : ByteArray), k ≤ ws.length ∧ v15 = .int .i64 k ∧ v5 = .string seen ∧ seen.size ≤ 4 * k ∧ Hid ((ws.take k).foldl stepP (some (zeroP, ByteArray.empty)) = some (p, seen)) ∧
      Hid (Blk wr w.heap.size 23 #[.int .i64 0, .int .i64 0, .int .i64 0, .int .i64 0]) ∧ Hid (Blk wr (w.heap.size + 1) 63 #[.int .i64 p.d, .int .i64 p.w, .int .i64 p.m, .int .i64 p.y]) ∧ Hid (Ext w wr) ∧ Hid (Sl encS 1 wr (some ⟨w.heap.size + 1 + 1, 0, none⟩) ws)) (fun v15 _ _ => ws.length - (intOf v15).toNat)
  case atStart => exact ⟨0, zeroP, ByteArray.empty, Nat.zero_le _, rfl, rfl, by decide, rfl, C2, C4, E1, HS⟩
  case round =>
    obtain ⟨k, p, seen, hk, rfl, rfl, hsn, HF, D2, D4, HE, HSS⟩ := hrel
    by_cases hlt : k < ws.length
    · obtain ⟨ad, had, hbb, x0⟩ := HSS.out.atS hlt
      injection had with had
      subst had
      rw [add_off0] at x0
      have hsx := HSZ.out ws[k] (List.getElem_mem hlt)
      have hfs := fold_snoc stepP (some (zeroP, ByteArray.empty)) ws k hlt
      rw [HF.out] at hfs
      have hdrop : ws.foldl stepP (some (zeroP, ByteArray.empty)) = (ws.drop (k + 1)).foldl stepP (stepP (some (p, seen)) ws[k]) := by
        rw [← hfs, ← List.foldl_append, List.take_append_drop]
      have HFS := Lib.hid hfs
      have HDR := Lib.hid hdrop
      clear hfs hdrop
      generalize ws[k] = x at *
      have hx : x.size = 0 ∨ 0 < x.size := by omega
      rcases hx with hx | hx
      · have hl := isEmpty_of hx
        rw [step_nil hx] at HFS
        clear HDR
        go_wp2_with fail
        go_roundw
        case measure => simp [intOf]; omega
        case rel => exact ⟨k + 1, p, seen, by omega, by go_num, rfl, by omega, HFS, D2, D4, HE, HSS⟩
      · have hl := isEmpty_not hx
        have hf1 := first1_size x
        have hlp := letterF_pos hx
        have hls := letterF_size x
        have hroom := tierF_room (x := x)
        have HBD : Hid (badP seen x ↔ ((countF (restF x)).2 = false ∨ tierF x < 0 ∨ Lib.contains seen.data.toList (letterF x).data.toList = true)) := Lib.hid Iff.rfl
        have HC1 := Lib.hid (fun w => first_any x w (by omega))
        have HC2 := Lib.hid (fun w => fold_any (first1 x) w (by omega))
        have HC3 := Lib.hid (fun w => fold_any x w (by omega))
        have HC4 := Lib.hid (fun w h => HL.out.index (letterF x) w h)
        have HC5 := Lib.hid (fun w => HL.out.trim (foldS x) (letterF x) w)
        have hrs : (restF x).size ≤ x.size := by
          unfold restF
          have h1 : (Lib.trimPrefix (foldS x).data.toList (letterF x).data.toList).length ≤ (foldS x).data.toList.length := by
            unfold Lib.trimPrefix
            split
            · rw [List.length_drop]; omega
            · exact Nat.le_refl _
          rw [← Lib.size_eq, foldS_size] at h1
          rw [Lib.size_eq]
          simpa using h1
        have HC6 := Lib.hid (fun w h => cnt_any HL.out.itoa HL.out.hold (restF x) w h (by omega))
        have HC7 := Lib.hid (fun w h => HL.out.has seen (letterF x) w h (by omega))
        have HSG := Lib.hid (step_go (p := p) (seen := seen) hx)
        have HSB := Lib.hid (step_bad (p := p) (seen := seen) hx)
        have HC2' : Hid (∀ w, Calls Tryz.prog 40 #[.string (first1 x)] w fun e w' => e = .returned (.string (letterF x)) ∧ Ext w w') := HC2
        have HC4' : Hid (∀ w, P w → Calls Tryz.prog 42 #[.string ⟨#[100, 119, 109, 121]⟩, .string (letterF x)] w fun e w' => e = .returned (.int .i64 (tierF x)) ∧ w = w') := HC4
        have HC5' : Hid (∀ w, Calls Tryz.prog 44 #[.string (foldS x), .string (letterF x)] w fun e w' => e = .returned (.string (restF x)) ∧ w = w') := HC5
        clear HC2 HC4 HC5 hf1 hrs
        generalize letterF x = le at *
        generalize tierF x = ti at *
        generalize restF x = re at *
        generalize foldS x = fo at *
        generalize first1 x = fi at *
        obtain ⟨nn, hnn⟩ : ∃ n, (countF re).1 = n := ⟨_, rfl⟩
        obtain ⟨ok, hok⟩ : ∃ b, (countF re).2 = b := ⟨_, rfl⟩
        obtain ⟨ct, hct⟩ : ∃ b, Lib.contains seen.data.toList le.data.toList = b := ⟨_, rfl⟩
        rw [hnn, hok] at HC6
        rw [hok, hct] at HBD
        rw [hct] at HC7
        rw [hnn] at HSG
        clear hnn hok hct
        have hcase : ok = false ∨ (ok = true ∧ ti < 0) ∨ (ok = true ∧ 0 ≤ ti ∧ ct = true) ∨ (ok = true ∧ 0 ≤ ti ∧ ct = false) := by
          have : ti < 0 ∨ 0 ≤ ti := by omega
          cases ok <;> cases ct <;> simp <;> omega
        go_wp2_with fail
        refine (HC1.out _).mono ?_
        rintro e w2 ⟨rfl, hx2⟩
        go_wp2_with fail
        refine (HC2'.out _).mono ?_
        rintro e w3 ⟨rfl, hx3⟩
        have HX3 := Lib.hid (hx2.trans hx3)
        clear hx2 hx3
        go_wp2_with fail
        refine (HC4'.out _ (HPW.out _ (HE.out.trans HX3.out))).mono ?_
        rintro e w3' ⟨rfl, rfl⟩
        go_wp2_with fail
        refine (HC3.out _).mono ?_
        rintro e w4 ⟨rfl, hx4⟩
        have HX4 := Lib.hid (HX3.out.trans hx4)
        clear hx4
        go_wp2_with fail
        refine (HC5'.out _).mono ?_
        rintro e w4' ⟨rfl, rfl⟩
        go_wp2_with fail
        refine (HC6.out _ (HPW.out _ (HE.out.trans HX4.out))).mono ?_
        rintro e w5 ⟨rfl, hx5⟩
        have HX5 := Lib.hid (HX4.out.trans hx5)
        clear hx5
        have F2 := Lib.hid (D2.out.ext HX5.out)
        have F4 := Lib.hid (D4.out.ext HX5.out)
        have hw5 : w.heap.size + 1 < w5.heap.size := F4.out.lt
        have z0 : w5.cell? ⟨w.heap.size, 0, none⟩ = some (.int .i64 0) := F2.out.cell 0
        have z1 : w5.cell? ⟨w.heap.size, 1, none⟩ = some (.int .i64 0) := F2.out.cell 1
        have z2 : w5.cell? ⟨w.heap.size, 2, none⟩ = some (.int .i64 0) := F2.out.cell 2
        have z3 : w5.cell? ⟨w.heap.size, 3, none⟩ = some (.int .i64 0) := F2.out.cell 3
        have g0 := F2.out.frozen 0
        have g1 := F2.out.frozen 1
        have g2 := F2.out.frozen 2
        have g3 := F2.out.frozen 3
        have HEE := Lib.hid (HE.out.trans HX5.out)
        rcases hcase with rfl | ⟨rfl, hti⟩ | ⟨rfl, hti, rfl⟩ | ⟨rfl, hti, rfl⟩
        · have hst := HSB.out (HBD.out.2 (.inl rfl))
          have HST := Lib.hid hst
          clear hst
          go_wp2_with fail
          have hst := HST.out
          refine bodyPost_ret (v := .tuple #[.agg #[.int .i64 0, .int .i64 0, .int .i64 0, .int .i64 0], .int .i64 2]) (by simp [results, Tryz.results21, go_sem, *]) rfl ⟨?_, ?_⟩
          · have : parseF s = none := by rw [HPF.out, HDR.out, hst, foldl_none]; rfl
            rw [this]; exact rfl
          · repeat (first | with_reducible exact HEE.out | with_reducible refine Ext.setCell ?_ (by dsimp only; omega) _)
        · have hst := HSB.out (HBD.out.2 (.inr (.inl hti)))
          have HST := Lib.hid hst
          clear hst
          go_wp2_with fail
          have hst := HST.out
          refine bodyPost_ret (v := .tuple #[.agg #[.int .i64 0, .int .i64 0, .int .i64 0, .int .i64 0], .int .i64 2]) (by simp [results, Tryz.results21, go_sem, *]) rfl ⟨?_, ?_⟩
          · have : parseF s = none := by rw [HPF.out, HDR.out, hst, foldl_none]; rfl
            rw [this]; exact rfl
          · repeat (first | with_reducible exact HEE.out | with_reducible refine Ext.setCell ?_ (by dsimp only; omega) _)
        · have hst := HSB.out (HBD.out.2 (.inr (.inr rfl)))
          have HST := Lib.hid hst
          clear hst
          go_wp2_with fail
          refine (HC7.out _ (HPW.out _ HEE.out)).mono ?_
          rintro e w5' ⟨rfl, rfl⟩
          go_wp2_with fail
          have hst := HST.out
          refine bodyPost_ret (v := .tuple #[.agg #[.int .i64 0, .int .i64 0, .int .i64 0, .int .i64 0], .int .i64 2]) (by simp [results, Tryz.results21, go_sem, *]) rfl ⟨?_, ?_⟩
          · have : parseF s = none := by rw [HPF.out, HDR.out, hst, foldl_none]; rfl
            rw [this]; exact rfl
          · repeat (first | with_reducible exact HEE.out | with_reducible refine Ext.setCell ?_ (by dsimp only; omega) _)
        · have hnb : ¬ badP seen x := fun hb => by
            rcases HBD.out.1 hb with h | h | h
            · cases h
            · omega
            · cases h
          have HST := Lib.hid (HSG.out hnb)
          have hro := hroom hti
          have y0 : w5.cell? ⟨w.heap.size + 1, 0, none⟩ = some (.int .i64 p.d) := F4.out.cell 0
          have y1 : w5.cell? ⟨w.heap.size + 1, 1, none⟩ = some (.int .i64 p.w) := F4.out.cell 1
          have y2 : w5.cell? ⟨w.heap.size + 1, 2, none⟩ = some (.int .i64 p.m) := F4.out.cell 2
          have y3 : w5.cell? ⟨w.heap.size + 1, 3, none⟩ = some (.int .i64 p.y) := F4.out.cell 3
          have q0 := F4.out.frozen 0
          have q1 := F4.out.frozen 1
          have q2 := F4.out.frozen 2
          have q3 := F4.out.frozen 3
          clear hnb
          have hti4 : ti = 0 ∨ ti = 1 ∨ ti = 2 ∨ ti = 3 := by omega
          rcases hti4 with rfl | rfl | rfl | rfl
          all_goals
            go_wp2_with fail
            refine (HC7.out _ (HPW.out _ HEE.out)).mono ?_
            rintro e w5' ⟨rfl, rfl⟩
            go_wp2_with fail
            go_roundw
            case measure => simp [intOf]; omega
          · refine ⟨k + 1, p.put 0 nn, seen ++ le, by omega, by go_num, rfl, by rw [ByteArray.size_append]; omega, Lib.hid (HFS.out.trans HST.out), Lib.hid (F2.out.far (by simp) _), ?_, HEE.out.setCell (by simp) _, Lib.hid ((HSS.out.ext HX5.out).far (by simp) _)⟩
            · refine Lib.hid ?_
              simpa [Pol.put] using F4.out.set_ 0 (.int .i64 nn)
          · refine ⟨k + 1, p.put 1 nn, seen ++ le, by omega, by go_num, rfl, by rw [ByteArray.size_append]; omega, Lib.hid (HFS.out.trans HST.out), Lib.hid (F2.out.far (by simp) _), ?_, HEE.out.setCell (by simp) _, Lib.hid ((HSS.out.ext HX5.out).far (by simp) _)⟩
            · refine Lib.hid ?_
              simpa [Pol.put] using F4.out.set_ 1 (.int .i64 nn)
          · refine ⟨k + 1, p.put 2 nn, seen ++ le, by omega, by go_num, rfl, by rw [ByteArray.size_append]; omega, Lib.hid (HFS.out.trans HST.out), Lib.hid (F2.out.far (by simp) _), ?_, HEE.out.setCell (by simp) _, Lib.hid ((HSS.out.ext HX5.out).far (by simp) _)⟩
            · refine Lib.hid ?_
              simpa [Pol.put] using F4.out.set_ 2 (.int .i64 nn)
          · refine ⟨k + 1, p.put 3 nn, seen ++ le, by omega, by go_num, rfl, by rw [ByteArray.size_append]; omega, Lib.hid (HFS.out.trans HST.out), Lib.hid (F2.out.far (by simp) _), ?_, HEE.out.setCell (by simp) _, Lib.hid ((HSS.out.ext HX5.out).far (by simp) _)⟩
            · refine Lib.hid ?_
              simpa [Pol.put] using F4.out.set_ 3 (.int .i64 nn)
    · obtain rfl : k = ws.length := by omega
      have hf := HF.out
      rw [List.take_length] at hf
      have hpf : parseF s = some p := by rw [HPF.out, hf]; rfl
      have HP := Lib.hid hpf
      clear hf hpf HPF HF
      have hwr : w.heap.size + 1 < wr.heap.size := D4.out.lt
      have z0 : wr.cell? ⟨w.heap.size, 0, none⟩ = some (.int .i64 0) := D2.out.cell 0
      have z1 : wr.cell? ⟨w.heap.size, 1, none⟩ = some (.int .i64 0) := D2.out.cell 1
      have z2 : wr.cell? ⟨w.heap.size, 2, none⟩ = some (.int .i64 0) := D2.out.cell 2
      have z3 : wr.cell? ⟨w.heap.size, 3, none⟩ = some (.int .i64 0) := D2.out.cell 3
      have g0 := D2.out.frozen 0
      have g1 := D2.out.frozen 1
      have g2 := D2.out.frozen 2
      have g3 := D2.out.frozen 3
      have y0 : wr.cell? ⟨w.heap.size + 1, 0, none⟩ = some (.int .i64 p.d) := D4.out.cell 0
      have y1 : wr.cell? ⟨w.heap.size + 1, 1, none⟩ = some (.int .i64 p.w) := D4.out.cell 1
      have y2 : wr.cell? ⟨w.heap.size + 1, 2, none⟩ = some (.int .i64 p.m) := D4.out.cell 2
      have y3 : wr.cell? ⟨w.heap.size + 1, 3, none⟩ = some (.int .i64 p.y) := D4.out.cell 3
      go_wp2_with fail
      refine bodyPost_ret (v := .tuple #[.agg #[.int .i64 p.d, .int .i64 p.w, .int .i64 p.m, .int .i64 p.y], .int .i64 0]) (by simp [results, Tryz.results21, go_sem, *]) rfl ⟨?_, ?_⟩
      · rw [HP.out]; exact rfl
      · repeat (first | with_reducible exact HE.out | with_reducible refine Ext.setCell ?_ (by dsimp only; omega) _)
end Go.Proofs.YtdnmpkdnfockgaaGreatDoor
