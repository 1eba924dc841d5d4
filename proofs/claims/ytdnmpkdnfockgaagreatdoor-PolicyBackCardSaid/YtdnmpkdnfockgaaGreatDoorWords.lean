/-
  Words for memory that all walks of this seat use: a row of structs that is read; what the call has laid lies above what was there.
-/
import Derived.WalkKit
import Derived.WalkSpells
import Derived.WalkLawsBesides
import Derived.Deep.LoopGhost
import Derived.Deep.Draws
import Derived.Deep.AppendLies
import Derived.Lib.Hide
import Derived.Outline
import Derived.OneCell
import Derived.Maps.AppendAt
import Derived.OwnWalk
import Derived.Deep.QuietTactic
import Derived.BigQuiet
namespace Go.Proofs.YtdnmpkdnfockgaaGreatDoor
open Go.RowKit

/-- All that lay in w lies in w' as it did. -/
def Ext (w w' : World) : Prop := Below w.heap.size w w'
theorem Ext.below {w w' : World} (h : Ext w w') : Below w.heap.size w w' := h
theorem Ext.refl (w : World) : Ext w w := Below.refl _ w
theorem Ext.size {w w' : World} (h : Ext w w') : w.heap.size ≤ w'.heap.size := Below.size h
theorem Ext.trans {a b c : World} (h : Ext a b) (k : Ext b c) : Ext a c := Below.trans h (Below.mono k h.size)
theorem Ext.alloc {w w' : World} (h : Ext w w') (o : Obj) : Ext w (w'.alloc o) := Below.alloc h h.size o
theorem Ext.drew {w w' : World} (h : Ext w w') : Ext w w'.drew := Below.drew h
theorem Ext.drewN {w w' : World} (h : Ext w w') (n : Nat) : Ext w (w'.drewN n) := ⟨h.os, h.tape, h.output, h.size, h.block⟩
theorem Ext.setCell {w w' : World} (h : Ext w w') {p : Addr} (hp : w.heap.size ≤ p.block) (u : Value) : Ext w (w'.setCell p u) := Below.setCell h hp u
theorem Ext.grown {a w w' : World} {row : Option Nat} (h : Ext a w) (hg : w.grownBy w' row) (hr : ∀ k, row = some k → a.heap.size ≤ k) : Ext a w' := Below.grown h hg h.size hr
theorem Ext.heap {w w' : World} (h : Ext w w') {b : Nat} (hb : b < w.heap.size) : w'.heap[b]? = w.heap[b]? := Below.block h b hb
theorem Ext.cell {w w' : World} (h : Ext w w') {p : Addr} (hp : p.block < w.heap.size) : w'.cell? p = w.cell? p := Below.cell h hp
theorem Ext.frozen {w w' : World} (h : Ext w w') {p : Addr} (hp : p.block < w.heap.size) : w'.frozen? p = w.frozen? p := Below.frozen h hp
theorem Ext.cellv {w w' : World} (h : Ext w w') {p : Addr} {v : Value} (hc : w.cell? p = some v) : w'.cell? p = some v := (h.cell (World.block_lt_of_cell? w p hc)).trans hc

theorem add_block (a : Addr) (n : Nat) : (a.add n).block = a.block := by unfold Addr.add; split <;> rfl
theorem add_add' (a : Addr) (i j : Nat) : (a.add i).add j = a.add (i + j) := by
  unfold Addr.add
  by_cases hi : i = 0 <;> by_cases hj : j = 0 <;> simp [hi, hj, Nat.add_assoc]
theorem add_pos (a : Addr) (m j : Nat) (hj : 0 < j) : a.add (m + j) = ⟨(a.add m).block, (a.add m).off + j, none⟩ := by
  unfold Addr.add
  by_cases hm : m = 0
  · subst hm; simp [Nat.pos_iff_ne_zero.1 hj]
  · simp [hm, Nat.pos_iff_ne_zero.1 hj, Nat.add_assoc]

/-- The slice that begins at A reads as xs, an element being the k cells 'enc x'. -/
def Sl {α : Type} (enc : α → List Value) (k : Nat) (w : World) (A : Option Addr) (xs : List α) : Prop :=
  xs = [] ∨ ∃ ad, A = some ad ∧ ad.block < w.heap.size ∧ ∀ (i : Nat) (x : α), xs[i]? = some x → ∀ (j : Nat) (u : Value), (enc x)[j]? = some u → w.cell? (ad.add (i * k + j)) = some u
section
variable {α : Type} {enc : α → List Value} {k : Nat} {w w' : World} {A : Option Addr} {xs : List α}
theorem Sl.nil (A : Option Addr) : Sl enc k w A [] := .inl rfl
theorem Sl.ext (h : Sl enc k w A xs) (he : Ext w w') : Sl enc k w' A xs := by
  rcases h with h | ⟨ad, e, hb, h⟩
  · exact .inl h
  · exact .inr ⟨ad, e, Nat.lt_of_lt_of_le hb he.size, fun i x hx j u hu => he.cellv (h i x hx j u hu)⟩
theorem Sl.get (h : Sl enc k w A xs) {i : Nat} (hi : i < xs.length) : ∃ ad, A = some ad ∧ ad.block < w.heap.size ∧ ∀ (j : Nat) (u : Value), (enc xs[i])[j]? = some u → w.cell? (ad.add (i * k + j)) = some u := by
  rcases h with h | ⟨ad, e, hb, h⟩
  · subst h; simp at hi
  · exact ⟨ad, e, hb, fun j u hu => h i xs[i] (List.getElem?_eq_getElem hi) j u hu⟩
theorem Sl.take (h : Sl enc k w A xs) (n : Nat) : Sl enc k w A (xs.take n) := by
  rcases h with h | ⟨ad, e, hb, h⟩
  · subst h; exact .inl (by simp)
  · refine .inr ⟨ad, e, hb, fun i x hx j u hu => h i x ?_ j u hu⟩
    rw [List.getElem?_take] at hx
    split at hx
    · exact hx
    · cases hx
theorem Sl.drop (h : Sl enc k w A xs) (n : Nat) : Sl enc k w (A.map (·.add (n * k))) (xs.drop n) := by
  rcases h with h | ⟨ad, e, hb, h⟩
  · subst h; exact .inl (by simp)
  · subst e
    refine .inr ⟨_, rfl, by rw [add_block]; exact hb, fun i x hx j u hu => ?_⟩
    rw [List.getElem?_drop] at hx
    rw [add_add', ← Nat.add_assoc, ← Nat.add_mul]
    exact h _ x hx j u hu
end

/-- A slice value that the call owns: its elements are xs (each 'enc x': k cells of element type e), in memory from base on. -/
def Own {α : Type} (enc : α → List Value) (e : TypeId) (k : Nat) (w : World) (base : Nat) (v : Value) (xs : List α) : Prop :=
  w.ownsRow base e k v xs.length (xs.flatMap enc)
section
variable {α : Type} {enc : α → List Value} {e : TypeId} {k : Nat} {w w' : World} {base : Nat} {v : Value} {xs : List α}
theorem Own.nil : Own enc e k w base (.slice none 0 0) ([] : List α) := World.ownsRow_nil w base e k
theorem Own.slice (h : Own enc e k w base v xs) : ∃ A c, v = .slice A xs.length c ∧ xs.length ≤ c := by
  rcases h.2 with ⟨rfl, hx⟩ | ⟨g, cap, cur, rfl, _, _, hnc, _⟩
  · have : xs.length = 0 := by simpa using hx
    exact ⟨none, 0, by rw [this], by omega⟩
  · exact ⟨_, _, rfl, hnc⟩
theorem flat_get (hk : ∀ x : α, (enc x).length = k) (xs : List α) : ∀ (i : Nat) (x : α), xs[i]? = some x → ∀ (j : Nat) (u : Value), (enc x)[j]? = some u → (xs.flatMap enc)[i * k + j]? = some u := by
  induction xs with
  | nil => intro i x hx; simp at hx
  | cons y ys ih =>
    intro i x hx j u hu
    rw [List.flatMap_cons]
    cases i with
    | zero =>
      have hxy : y = x := by simpa using hx
      subst hxy
      have hj : j < (enc y).length := by
        rcases Nat.lt_or_ge j (enc y).length with h | h
        · exact h
        · rw [List.getElem?_eq_none h] at hu; cases hu
      rw [Nat.zero_mul, Nat.zero_add, List.getElem?_append_left hj]
      exact hu
    | succ i =>
      have hle : (enc y).length ≤ (i + 1) * k + j := by rw [hk y, Nat.add_mul]; omega
      rw [List.getElem?_append_right hle, hk y]
      have h2 := ih i x (by simpa using hx) j u hu
      rw [show (i + 1) * k + j - k = i * k + j from by rw [Nat.add_mul]; omega]
      exact h2
theorem flat_len (hk : ∀ x : α, (enc x).length = k) (xs : List α) : (xs.flatMap enc).length = xs.length * k := by
  induction xs with
  | nil => simp
  | cons y ys ih => rw [List.flatMap_cons, List.length_append, ih, hk y, List.length_cons, Nat.add_mul]; omega
theorem Own.sl (hk : ∀ x : α, (enc x).length = k) (h : Own enc e k w base v xs) {A : Option Addr} {n c : Nat} (hv : v = .slice A n c) : Sl enc k w A xs := by
  subst hv
  rcases h.2 with ⟨hv, hx⟩ | ⟨g, cap, cur, hv, _, hh, hnc, _⟩
  · have hl := flat_len hk xs
    have : xs.length = 0 := by simpa using hx
    exact .inl (List.eq_nil_of_length_eq_zero this)
  · injection hv with h1 h2 h3
    subst h1
    refine .inr ⟨⟨g, 0, none⟩, rfl, ?_, fun i x hx j u hu => ?_⟩
    · rcases Nat.lt_or_ge g w.heap.size with hlt | hge
      · exact hlt
      · rw [Array.getElem?_eq_none hge] at hh; cases hh
    · exact World.ownsRow.cells h (g := g) rfl _ u (flat_get hk xs i x hx j u hu)
theorem Own.ext (h : Own enc e k w base v xs) (he : Ext w w') : Own enc e k w' base v xs :=
  World.ownsRow.kept h (row := none) ⟨he.os, he.tape, he.output, he.size, fun i hi _ => he.block i hi⟩ (by cases hv : v.ownBlock <;> simp)
theorem Own.alloc (h : Own enc e k w base v xs) (o : Obj) : Own enc e k (w.alloc o) base v xs := World.ownsRow.alloc h o
theorem Own.drewN (h : Own enc e k w base v xs) (n : Nat) : Own enc e k (w.drewN n) base v xs := h
theorem Own.drew (h : Own enc e k w base v xs) : Own enc e k w.drew base v xs := h
theorem Own.base_le (h : Own enc e k w base v xs) : ∀ g, v.ownBlock = some g → base ≤ g := fun g hg => (World.ownsRow.lt h g hg).1
end

/-- Block g is just the cells cs of type t. -/
def Blk (w : World) (g : Nat) (t : TypeId) (cs : Array Value) : Prop := w.heap[g]? = some (.cells cs t (0, 0))
section
variable {w w' : World} {g : Nat} {t : TypeId} {cs : Array Value}
theorem Blk.lt (h : Blk w g t cs) : g < w.heap.size := by
  rcases Nat.lt_or_ge g w.heap.size with hlt | hge
  · exact hlt
  · unfold Blk at h; rw [Array.getElem?_eq_none hge] at h; cases h
theorem Blk.cell (h : Blk w g t cs) (i : Nat) : w.cell? ⟨g, i, none⟩ = cs[i]? := cell_of_row w g i cs t (0, 0) h
theorem Blk.frozen (h : Blk w g t cs) (i : Nat) : w.frozen? ⟨g, i, none⟩ = false := by
  unfold Blk at h
  simp [World.frozen?, h]
theorem Blk.ext (h : Blk w g t cs) (he : Ext w w') : Blk w' g t cs := (he.heap h.lt).trans h
theorem Blk.new (w : World) (t : TypeId) (cs : Array Value) : Blk (w.alloc (.cells cs t)) w.heap.size t cs := by
  unfold Blk World.alloc
  simp
end

/-- append of the elements ys (read at the address of the second operand) onto a slice that the call owns. -/
theorem wp_app {α : Type} {enc : α → List Value} {P : Program} {ops : Array Oper} {rest : List Oper} {o : Oper} {a : Act} {Q : Exit → Act → World → Prop} {w : World} (hgd : o.guard = none) (s x : Operand) (t : TypeId)
    (ho : o.op = .call { callee := .builtin .append, args := #[s, x], argTypes := #[t, t] }) {e : TypeId} {k bytes : Nat} {z : Value} (ht : P.underlying t = some (.slice e))
    (hinfo : (P.info? e).map (fun i => (i.zero, i.size, i.bytes)) = some (some z, k, bytes)) (hzs : z.cells.size = k) (hk0 : 0 < k) (hk : ∀ y : α, (enc y).length = k) (h1 : ∀ (y : α), ∀ u ∈ enc y, u.oneCell' = true)
    (base : Nat) (v : Value) (xs : List α) (hs : a.eval s = v) (hown : Own enc e k w base v xs) (A : Option Addr) (m c : Nat) (ys : List α) (hx : a.eval x = .slice A m c) (hm : m = ys.length) (hy : Sl enc k w A ys)
    (hbytes : (xs.length + ys.length) * bytes ≤ 140737488355328) (h63 : xs.length + ys.length ≤ 9223372036854775807) (hbase : base ≤ w.heap.size)
    (h : ∀ v' w', Own enc e k w' base v' (xs ++ ys) → w.grownBy w' v.ownBlock → (v'.ownBlock = v.ownBlock ∨ v'.ownBlock = some w.heap.size) → wpList P ops Q rest (a.put o.dst v') w') : wpList P ops Q (o :: rest) a w := by
  obtain ⟨i, hi, hz0, hz1, hz2⟩ := info_parts hinfo
  subst hm
  have key : ∃ v' w', (Builtin.append_ #[t, t] o.type #[v, .slice A ys.length c]).run P w = .ok v' w' ∧ Own enc e k w' base v' (xs ++ ys) ∧ w.grownBy w' v.ownBlock ∧ (v'.ownBlock = v.ownBlock ∨ v'.ownBlock = some w.heap.size) := by
    have hlen : (xs ++ ys).length = xs.length + ys.length := List.length_append
    rcases hy with rfl | ⟨ad, rfl, hb, hc⟩
    · have hnil : (Builtin.append_ #[t, t] o.type #[v, .slice A 0 c]).run P w = .ok v w := by
        cases A with
        | none =>
          rcases hown.2 with ⟨rfl, hx0⟩ | ⟨g, cap, cur, rfl, _, _, hnc, _⟩
          · simp [Builtin.append_, run_underlying ht, sizeOf, typeInfo, hi, Builtin.lenOf, Builtin.firstCells]
          · simp [Builtin.append_, run_underlying ht, sizeOf, typeInfo, hi, Builtin.lenOf, Builtin.firstCells, hnc, storeCells]
        | some ad =>
          rcases hown.2 with ⟨rfl, hx0⟩ | ⟨g, cap, cur, rfl, _, _, hnc, _⟩
          · simp [Builtin.append_, run_underlying ht, sizeOf, typeInfo, hi, Builtin.lenOf, Builtin.firstCells, loadCells, loadCellsFrom]
          · simp [Builtin.append_, run_underlying ht, sizeOf, typeInfo, hi, Builtin.lenOf, Builtin.firstCells, hnc, storeCells, loadCells, loadCellsFrom]
      exact ⟨v, w, hnil, by simpa using hown, World.grownBy.refl w _, .inl rfl⟩
    · have hfl : ∀ (zs : List α) (b : Addr), (∀ (i : Nat) (x : α), zs[i]? = some x → ∀ (j : Nat) (u : Value), (enc x)[j]? = some u → w.cell? (b.add (i * k + j)) = some u) → ∀ j u, (zs.flatMap enc)[j]? = some u → w.cell? (b.add j) = some u := by
        intro zs
        induction zs with
        | nil => intro b _ j u hu; simp at hu
        | cons y zs ih =>
          intro b hb j u hu
          rw [List.flatMap_cons] at hu
          by_cases hj : j < (enc y).length
          · rw [List.getElem?_append_left hj] at hu
            have := hb 0 y rfl j u hu
            simpa using this
          · rw [List.getElem?_append_right (by omega), hk y] at hu
            have h2 := ih (b.add k) (fun i x hx j u hu => by
              have := hb (i + 1) x (by simpa using hx) j u hu
              rw [add_add', show k + (i * k + j) = (i + 1) * k + j from by rw [Nat.add_mul]; omega]
              exact this) (j - k) u hu
            rw [add_add'] at h2
            rw [hk y] at hj
            rwa [show k + (j - k) = j from by omega] at h2
      obtain ⟨v', w', hr, h2, h3, _, h5⟩ := run_append_own_at (P := P) w base t o.type e i z k bytes ht hi hz0 hz1 hz2 hzs hk0 v xs.length _ hown ad ys.length c (ys.flatMap enc) (flat_len hk ys) (hfl ys ad hc)
        (fun u hu => by obtain ⟨y, _, hu'⟩ := List.mem_flatMap.1 hu; exact h1 y u hu') (by unfold maxLen; omega) hbytes hbase
      refine ⟨v', w', hr, ?_, h3, h5⟩
      unfold Own
      rw [hlen, List.flatMap_append]
      exact h2
  obtain ⟨v', w', hr, h2, h3, h5⟩ := key
  refine wpList_plain hgd fun K hK => ?_
  unfold Oper.wp execOp
  simp only [ho, resolve, invoke, builtin, Sem.run_bind, Sem.run_pure, Result.andThen_ok, List.map_toArray, List.map_cons, List.map_nil, hs, hx, hr]
  exact hK _ _ (h v' w' h2 h3 h5)

/-- A literal of one element, just laid. -/
theorem Sl.one {α : Type} {enc : α → List Value} {k : Nat} (w : World) (t : TypeId) (y : α) (cs : Array Value) (hcs : cs.toList = enc y) {g : Nat} (hg : g = w.heap.size) : Sl enc k (w.alloc (.cells cs t)) (some ⟨g, 0, none⟩) [y] := by
  subst hg
  refine .inr ⟨_, rfl, by simp, fun i x hx j u hu => ?_⟩
  cases i with
  | zero =>
    have : y = x := by simpa using hx
    subst this
    rw [Nat.zero_mul, Nat.zero_add]
    have ha : (⟨w.heap.size, 0, none⟩ : Addr).add j = ⟨w.heap.size, j, none⟩ := by unfold Addr.add; split <;> simp_all
    rw [ha, (Blk.new w t cs).cell j, ← Array.getElem?_toList, hcs]
    exact hu
  | succ i => simp at hx

theorem Own.step {α : Type} {enc : α → List Value} {e : TypeId} {k : Nat} {w0 w w' : World} {v : Value} {xs : List α} (h : Own enc e k w w0.heap.size v xs) (he : Ext w0 w) (hg : w.grownBy w' v.ownBlock) : Ext w0 w' :=
  he.grown hg (fun g hg => h.base_le g hg)

theorem Blk.at_ (w : World) (t : TypeId) (cs : Array Value) {g : Nat} (hg : g = w.heap.size) : Blk (w.alloc (.cells cs t)) g t cs := by subst hg; exact Blk.new w t cs
theorem Blk.alloc {w : World} {g : Nat} {t : TypeId} {cs : Array Value} (h : Blk w g t cs) (o : Obj) : Blk (w.alloc o) g t cs := h.ext ((Ext.refl w).alloc o)
theorem Blk.set_ {w : World} {g : Nat} {t : TypeId} {cs : Array Value} (h : Blk w g t cs) (i : Nat) (u : Value) : Blk (w.setCell ⟨g, i, none⟩ u) g t (cs.setIfInBounds i u) := by
  unfold Blk at h ⊢
  simp [World.setCell, Array.getElem?_modify, h]
theorem Blk.far {w : World} {g : Nat} {t : TypeId} {cs : Array Value} (h : Blk w g t cs) {p : Addr} (hp : g ≠ p.block) (u : Value) : Blk (w.setCell p u) g t cs := (Below.heap_setCell w p u g hp).trans h

theorem ret_int {k : IntKind} {a b : Int} (h : a = b) : Ending.returned (.int k a) = .returned (.int k b) := by rw [h]
theorem ret_str {a b : ByteArray} (h : a = b) : Ending.returned (.string a) = .returned (.string b) := by rw [h]
theorem ret_bool {a b : Bool} (h : a = b) : Ending.returned (.bool a) = .returned (.bool b) := by rw [h]

/-- A world in which all that lay in W lies as it did. -/
structure EW (W : World) where
  w : World
  h : Ext W w
instance EW.some_ (W : World) : Nonempty (EW W) := ⟨⟨W, Ext.refl W⟩⟩
theorem EW.cell {W : World} {p : Addr} {v : Value} (h : W.cell? p = some v) : ∀ x : EW W, x.w.cell? p = some v := fun x => x.h.cellv h
/-- A region that draws its order, whose operations read what lay in W, and whose calls turn nothing that lay there: one walk, in the text's order. -/
theorem wp_region_ext {P : Program} {id : Nat} {Q : Exit → Act → World → Prop} {a : Act} {W : World} {l : List Oper} (hm : P.follows .mixedOrders = true) (hB : Region.lexB .any l.toArray = true)
    (h : wpQuiet P l.toArray (fun w' => ∃ x : EW W, w' = x.w) (fun a' => ∀ w', (∃ x : EW W, w' = x.w) → Q .normal a' w') l a) : (Code.region id l.toArray true).wp P Q a W :=
  wp_region_quiet (C := fun w' => ∃ x : EW W, w' = x.w) hm hB ⟨⟨{ W with drawn := W.drawn + 1 }, ⟨rfl, rfl, rfl, Nat.le_refl _, fun _ _ => rfl⟩⟩, rfl⟩ (by simpa using h)
theorem EW.calls {P : Program} {f : FuncId} {args : Array Value} {W : World} {v : Value} (x : EW W) (h : Calls P f args x.w fun e w' => e = .returned v ∧ Ext x.w w') : Calls P f args x.w fun e w' => e = .returned v ∧ ∃ y : EW W, w' = y.w :=
  h.mono fun _ w' ⟨he, hx⟩ => ⟨he, ⟨w', x.h.trans hx⟩, rfl⟩

/-- Two rows of different element types lie in different blocks. -/
theorem own_blocks_ne {w : World} {b b' s s' n n' : Nat} {e e' : TypeId} {v v' : Value} {xs xs' : List Value} (h : w.ownsRow b e s v n xs) (h' : w.ownsRow b' e' s' v' n' xs') (hne : e ≠ e') : v.ownBlock = none ∨ v.ownBlock ≠ v'.ownBlock := by
  rcases h.2 with ⟨rfl, _⟩ | ⟨g, cap, cur, rfl, _, hh, _⟩
  · exact .inl rfl
  · right
    rcases h'.2 with ⟨rfl, _⟩ | ⟨g', cap', cur', rfl, _, hh', _⟩
    · simp [Value.ownBlock]
    · intro he
      have : g = g' := by simpa [Value.ownBlock] using he
      subst this
      rw [hh] at hh'
      injection hh' with hh'
      injection hh' with _ ht
      exact hne ht
section
variable {α β : Type} {enc : α → List Value} {enc' : β → List Value} {e e' : TypeId} {k k' : Nat} {w w1 : World} {base base' : Nat} {v v' : Value} {xs : List α} {ys : List β}
theorem Own.other (h : Own enc e k w base v xs) (h' : Own enc' e' k' w base' v' ys) (hne : e ≠ e') (hg : w.grownBy w1 v'.ownBlock) : Own enc e k w1 base v xs :=
  World.ownsRow.kept h hg (own_blocks_ne h h' hne)
theorem Own.lt (h : Own enc e k w base v xs) : ∀ g, v.ownBlock = some g → g < w.heap.size := fun g hg => (World.ownsRow.lt h g hg).2
theorem Blk.grown {g : Nat} {t : TypeId} {cs : Array Value} (hb : Blk w g t cs) (h : Own enc e k w base v xs) (hne : t ≠ e) (hg : w.grownBy w1 v.ownBlock) : Blk w1 g t cs := by
  refine (hg.block g hb.lt ?_).trans hb
  rcases h.2 with ⟨rfl, _⟩ | ⟨g', cap, cur, rfl, _, hh, _⟩
  · simp [Value.ownBlock]
  · intro he
    have : g = g' := by simpa [Value.ownBlock] using he
    subst this
    unfold Blk at hb
    rw [hb] at hh
    injection hh with hh
    injection hh with _ ht
    exact hne ht
/-- A block that lies behind the row's own is kept. -/
theorem Blk.above {g : Nat} {t : TypeId} {cs : Array Value} (hb : Blk w g t cs) (hne : v.ownBlock ≠ some g) (hg : w.grownBy w1 v.ownBlock) : Blk w1 g t cs := (hg.block g hb.lt (fun h => hne h.symm)).trans hb
theorem Own.lit (w : World) (base : Nat) (e : TypeId) (k : Nat) (cs : Array Value) (xs : List α) (hcs : cs.toList = xs.flatMap enc) (hk : ∀ x : α, (enc x).length = k) (hb : base ≤ w.heap.size) (hm : xs.length ≤ 9223372036854775807) {g : Nat} (hg : g = w.heap.size) :
    Own enc e k (w.alloc (.cells cs e)) base (.slice (some ⟨g, 0, none⟩) xs.length xs.length) xs := by
  subst hg
  have hsz : cs.size = xs.length * k := by rw [← Array.length_toList, hcs, flat_len hk]
  have h := World.ownsRow_lit (base := base) (e := e) (size := k) w cs xs.length hb (by unfold maxLen; exact hm) hsz
  unfold Own
  rw [← hcs]
  exact h
/-- 'xs[i:]' as the walk spells it. -/
theorem Sl.cut {A : Option Addr} {c : Nat} {xs : List α} (h : Sl enc k w A xs) (i : Nat) (hc : xs.length ≤ c) : Sl enc k w (if c = i then A else A.map (·.add (i * k))) (xs.drop i) := by
  by_cases e : c = i
  · rw [if_pos e, List.drop_eq_nil_of_le (by omega)]
    exact Sl.nil A
  · rw [if_neg e]
    exact h.drop i
end

/-- 'xs[m:]' without a case on the capacity: laid ahead of the walk. -/
theorem sl_cut {α : Type} {enc : α → List Value} {k : Nat} {P : Program} (t e : TypeId) {i : TypeInfo} (ht : P.underlying t = some (.slice e)) (hi : P.info? e = some i) (hsz : i.size = k) (A : Option Addr) (n c m : Nat) (hm : m ≤ n) :
    ∃ A' : Option Addr, (∀ W : World, (Instr.slice t (.slice A n c) (some (.int .i64 (m : Int))) none none).run P W = .ok (.slice A' (n - m) (c - m)) W) ∧
      ∀ (w : World) (xs : List α), xs.length = n → n ≤ c → Sl enc k w A xs → Sl enc k w A' (xs.drop m) := by
  refine ⟨if c = m then A else A.map (·.add (m * k)), fun W => ?_, fun w xs hl hc h => h.cut m (by omega)⟩
  have hel : P.elem t = e := by simp [Program.elem, ht]
  have hu : P.underlying t = some (.slice (P.elem t)) := by rw [hel]; exact ht
  rw [run_slice_l W t A n c hu .i64 (m : Int) (Int.natCast_nonneg _) (by omega), hel]
  simp [sizeOf, typeInfo, hi, hsz, sliced, Result.andThen]

end Go.Proofs.YtdnmpkdnfockgaaGreatDoor
