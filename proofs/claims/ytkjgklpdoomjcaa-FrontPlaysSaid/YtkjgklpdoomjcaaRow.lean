/- A slice whose cells lie in a block of the call's own, at whatever offset: what it holds as a list; cut at its head; appended to. Plain theorems about worlds. -/
import Derived.Test.YtkjgklpdoomjcaaCells
import Derived.Deep.AppendSrc
import Derived.Laws.Append
namespace Go.Proofs.Ytkjgklpdoomjcaa
open Go.RowKit

theorem addr_add (g off k : Nat) : (⟨g, off, none⟩ : Addr).add k = ⟨g, off + k, none⟩ := by
  unfold Addr.add
  split
  · subst k; rfl
  · rfl

/-- A slice value '.slice a n cap' over the cells xs, in a block at base or above. -/
structure SL (w : World) (base size : Nat) (a : Option Addr) (n cap : Nat) (xs : List Value) : Prop where
  len : xs.length = n * size
  le : n ≤ cap
  max : cap ≤ maxLen
  zero : a = none → cap = 0
  lies : ∀ ad, a = some ad → ∃ g off, ad = ⟨g, off, none⟩ ∧ base ≤ g ∧ g < w.heap.size ∧ (∀ o, w.frozen? ⟨g, o, none⟩ = false) ∧ (∀ j, j < cap * size → (w.cell? ⟨g, off + j, none⟩).isSome = true) ∧ ∀ j u, xs[j]? = some u → w.cell? ⟨g, off + j, none⟩ = some u

/-- Block g is not that of the slice. -/
def Apart (a : Option Addr) (g : Nat) : Prop := ∀ ad, a = some ad → ad.block ≠ g

section
variable {w w' : World} {base size n cap : Nat} {a : Option Addr} {xs : List Value}
theorem SL.nil : SL w base size none 0 0 [] := ⟨by simp, Nat.le_refl _, Nat.zero_le _, fun _ => rfl, fun _ h => by cases h⟩
theorem SL.kept (h : SL w base size a n cap xs) {row : Option Nat} (g : w.grownBy w' row) (hne : ∀ ad, a = some ad → some ad.block ≠ row) : SL w' base size a n cap xs :=
  ⟨h.len, h.le, h.max, h.zero, fun ad e => by
    obtain ⟨gg, off, rfl, h1, h2, h3, h4, h5⟩ := h.lies ad e
    have hb := g.block gg h2 (hne _ e)
    have hc : ∀ o, w'.cell? ⟨gg, o, none⟩ = w.cell? ⟨gg, o, none⟩ := fun o => World.cell?_of_block (w := w) (a := ⟨gg, o, none⟩) hb
    have hf : ∀ o, w'.frozen? ⟨gg, o, none⟩ = w.frozen? ⟨gg, o, none⟩ := fun o => World.frozen?_of_block (w := w) (a := ⟨gg, o, none⟩) hb
    exact ⟨gg, off, rfl, h1, Nat.lt_of_lt_of_le h2 g.size, fun o => (hf o).trans (h3 o), fun j hj => by rw [hc]; exact h4 j hj, fun j u hu => (hc _).trans (h5 j u hu)⟩⟩
theorem SL.keep (h : SL w base size a n cap xs) (g : w.grownBy w' none) : SL w' base size a n cap xs := h.kept g (fun _ _ e => by cases e)
theorem SL.far (h : SL w base size a n cap xs) {r : Nat} (g : w.grownBy w' (some r)) (hr : Apart a r) : SL w' base size a n cap xs := h.kept g (fun ad e e' => hr ad e (by injection e'))
theorem SL.apart_lt (h : SL w base size a n cap xs) {r : Nat} (hr : r < base) : Apart a r := fun ad e => by
  obtain ⟨gg, off, rfl, h1, _⟩ := h.lies ad e
  show gg ≠ r
  omega
theorem SL.apart_new (h : SL w base size a n cap xs) {r : Nat} (hr : w.heap.size ≤ r) : Apart a r := fun ad e => by
  obtain ⟨gg, off, rfl, h1, h2, _⟩ := h.lies ad e
  show gg ≠ r
  omega
theorem Apart.none_ (g : Nat) : Apart none g := fun _ e => by cases e
theorem SL.head (h : SL w base size a n cap xs) (hn : 0 < n) : ∃ g off, a = some ⟨g, off, none⟩ ∧ base ≤ g ∧ g < w.heap.size ∧ ∀ j u, xs[j]? = some u → w.cell? ⟨g, off + j, none⟩ = some u := by
  have hl := h.le
  cases e : a with
  | none => have := h.zero e; omega
  | some ad =>
    obtain ⟨gg, off, rfl, h1, h2, _, _, h5⟩ := h.lies ad e
    exact ⟨gg, off, rfl, h1, h2, h5⟩
/-- The address behind the first k elements. -/
def cutAt (size : Nat) (a : Option Addr) (cap k : Nat) : Option Addr := if cap = k then a else a.map (·.add (k * size))
theorem cutAt_apart {size cap k g : Nat} {a : Option Addr} (h : Apart a g) : Apart (cutAt size a cap k) g := by
  unfold cutAt
  split
  · exact h
  · intro ad e
    cases a with
    | none => cases e
    | some x =>
      injection e with e
      subst e
      have := h x rfl
      unfold Addr.add
      split <;> exact this
theorem SL.cut (h : SL w base size a n cap xs) {k : Nat} (hk : k ≤ n) : SL w base size (cutAt size a cap k) (n - k) (cap - k) (xs.drop (k * size)) := by
  have hl := h.le
  refine ⟨by rw [List.length_drop, h.len, Nat.sub_mul], by omega, by have := h.max; omega, fun e => ?_, fun ad e => ?_⟩
  · unfold cutAt at e
    split at e
    · omega
    · cases a with
      | none => have := h.zero rfl; omega
      | some x => cases e
  · unfold cutAt at e
    split at e
    · rename_i hck
      obtain ⟨g, off, rfl, h1, h2, h3, h4, h5⟩ := h.lies ad e
      refine ⟨g, off, rfl, h1, h2, h3, fun j hj => ?_, fun j u hu => ?_⟩
      · rw [hck, Nat.sub_self, Nat.zero_mul] at hj
        omega
      · have hj := (List.getElem?_eq_some_iff.1 hu).1
        rw [List.length_drop, h.len, ← Nat.sub_mul, show n - k = 0 by omega, Nat.zero_mul] at hj
        omega
    · cases a with
      | none => cases e
      | some x =>
        injection e with e
        obtain ⟨g, off, rfl, h1, h2, h3, h4, h5⟩ := h.lies x rfl
        have e := (addr_add g off (k * size)).symm.trans e
        subst e
        refine ⟨g, off + k * size, rfl, h1, h2, h3, fun j hj => ?_, fun j u hu => ?_⟩
        · rw [Nat.add_assoc]
          refine h4 _ ?_
          rw [Nat.sub_mul] at hj
          have : k * size ≤ cap * size := Nat.mul_le_mul_right _ (by omega)
          omega
        · rw [Nat.add_assoc]
          exact h5 _ u (by rw [← hu, List.getElem?_drop])
/-- The last elements are left out. -/
theorem SL.short (h : SL w base size a n cap xs) {k : Nat} (hk : k ≤ n) : SL w base size a k cap (xs.take (k * size)) :=
  ⟨by rw [List.length_take, h.len]; exact Nat.min_eq_left (Nat.mul_le_mul_right _ hk), Nat.le_trans hk h.le, h.max, h.zero, fun ad e => by
    obtain ⟨g, off, rfl, h1, h2, h3, h4, h5⟩ := h.lies ad e
    refine ⟨g, off, rfl, h1, h2, h3, h4, fun j u hu => h5 j u ?_⟩
    rw [List.getElem?_take] at hu
    split at hu
    · exact hu
    · cases hu⟩
end

theorem only_setCells {a : World} {row : Option Nat} {g : Nat} (hp : some g = row ∨ a.heap.size ≤ g) : ∀ (vs : List Value) (o : Nat) (w : World), a.grownBy w row → a.grownBy (w.setCells g o vs) row
  | [], _, _, h => h
  | v :: r, o, w, h => by
    rw [World.setCells]
    exact only_setCells hp r (o + 1) _ (only_setCell h hp v)

theorem size_setCells_ (g : Nat) : ∀ (vs : List Value) (o : Nat) (w : World), (w.setCells g o vs).heap.size = w.heap.size
  | [], _, _ => rfl
  | v :: r, o, w => by rw [World.setCells, size_setCells_ g r (o + 1), size_setCell]

/-- The block of a slice. -/
def own (a : Option Addr) : Option Nat := a.map (·.block)

section
variable {P : Program}
theorem run_append_sl (w : World) (base : Nat) (t ty e : TypeId) (i : TypeInfo) (z : Value) (size bytes : Nat) (ht : P.underlying t = some (.slice e)) (hi : P.info? e = some i) (hz : i.zero = some z) (hsize : i.size = size) (hby : i.bytes = bytes) (hzs : z.cells.size = size)
    (a : Option Addr) (n cap : Nat) (xs : List Value) (h : SL w base size a n cap xs) (x : Value) (m : Nat) (news : List Value) (hs : Src P size t x m news w) (hm : 0 < m ∨ 0 < cap)
    (h63 : n + m ≤ maxLen) (hbytes : (n + m) * bytes ≤ 140737488355328) (hbase : base ≤ w.heap.size) :
    ∃ a' cap' w', (Builtin.append_ #[t, t] ty #[.slice a n cap, x]).run P w = .ok (.slice a' (n + m) cap') w' ∧ SL w' base size a' (n + m) cap' (xs ++ news) ∧ w.grownBy w' (own a) ∧ (own a' = own a ∨ own a' = some w.heap.size) := by
  subst hsize
  subst hby
  have hlen : (xs ++ news).length = (n + m) * i.size := by rw [List.length_append, h.len, hs.newsLen, Nat.add_mul]
  have hsmall : n + m ≤ 9223372036854775807 := by simp only [maxLen] at h63; omega
  by_cases hroom : n + m ≤ cap
  · cases a with
    | none => have := h.zero rfl; omega
    | some ad =>
      obtain ⟨g, off, rfl, h1, h2, h3, h4, h5⟩ := h.lies ad rfl
      have hcm : (n + m) * i.size ≤ cap * i.size := Nat.mul_le_mul_right _ hroom
      rw [Nat.add_mul] at hcm
      have hnl := hs.newsLen
      have hsome : ∀ j, j < news.length → (w.cell? ⟨g, off + n * i.size + j, none⟩).isSome = true := fun j hj => by
        rw [Nat.add_assoc]; exact h4 _ (by omega)
      have hr := run_append_room_src (P := P) w t t ty e i ht hi g off n cap x m news hs hroom hsome (fun _ _ => h3 _)
      refine ⟨some ⟨g, off, none⟩, cap, w.setCells g (off + n * i.size) news, hr, ⟨hlen, hroom, h.max, (fun e => by cases e), fun ad e => ?_⟩, only_setCells (.inl rfl) _ _ _ (World.grownBy.refl _ _), .inl rfl⟩
      injection e with e
      subst e
      have hsz : (w.setCells g (off + n * i.size) news).heap.size = w.heap.size := size_setCells_ _ _ _ _
      refine ⟨g, off, rfl, h1, by rw [hsz]; exact h2, fun o => by rw [World.frozen?_setCells]; exact h3 o, fun j hj => ?_, fun j u hu => ?_⟩
      · by_cases hin : n * i.size ≤ j ∧ j < n * i.size + news.length
        · have := World.cell?_setCells_in g news (off + n * i.size) w hsome (j - n * i.size) (by omega)
          rw [show off + n * i.size + (j - n * i.size) = off + j by omega] at this
          rw [this]; rfl
        · rw [World.cell?_setCells_out g _ _ _ _ (fun _ _ => by show off + j < off + n * i.size ∨ off + n * i.size + news.length ≤ off + j; omega)]
          exact h4 j hj
      · have hxl := h.len
        by_cases hj : j < n * i.size
        · rw [List.getElem?_append_left (by omega)] at hu
          rw [World.cell?_setCells_out g _ _ _ _ (fun _ _ => Or.inl (by show off + j < off + n * i.size; omega))]
          exact h5 j u hu
        · rw [List.getElem?_append_right (by omega), hxl] at hu
          obtain ⟨hj2, e2⟩ := List.getElem?_eq_some_iff.1 hu
          have := World.cell?_setCells_in g news (off + n * i.size) w hsome (j - n * i.size) hj2
          rw [show off + n * i.size + (j - n * i.size) = off + j by omega] at this
          rw [this, e2]
  · have hold : (Builtin.firstCells i.size n (.slice a n cap)).run P w.drew = .ok xs.toArray w.drew := by
      cases a with
      | none =>
        have h0 := h.zero rfl
        have hl := h.le
        have hn0 : n = 0 := by omega
        subst hn0
        have hx : xs = [] := List.eq_nil_of_length_eq_zero (by simpa using h.len)
        subst hx
        exact run_firstCells_none w.drew i.size 0 0 cap
      | some ad =>
        obtain ⟨g, off, rfl, h1, h2, h3, h4, h5⟩ := h.lies ad rfl
        refine run_firstCells_some w.drew i.size n ⟨g, off, none⟩ n cap xs h.len (fun j u hu => ?_)
        rw [addr_add]
        exact h5 j u hu
    have hr := run_append_grow_src (P := P) w t t ty e i z ht hi hz a n cap xs hold x m news hs (by omega) (by omega) (growslice_fits (by omega) hbytes)
    have hge := grownCap_ge w (n + m) cap e
    have hcm : grownCap w (n + m) cap e ≤ maxLen := grownCap_le_maxLen w (n + m) cap e h63
    refine ⟨_, _, _, hr, ⟨hlen, hge, hcm, (fun e => by cases e), fun ad e => ?_⟩, only_alloc (only_drew (World.grownBy.refl _ _)) _, .inr rfl⟩
    injection e with e
    subst e
    have hsz : ((xs ++ news).toArray ++ Builtin.zeroCells z.cells (grownCap w (n + m) cap e - (n + m))).size = grownCap w (n + m) cap e * i.size := by
      rw [Array.size_append, List.size_toArray, hlen, size_zeroCells, hzs, ← Nat.add_mul]
      congr 1
      omega
    refine ⟨w.heap.size, 0, rfl, hbase, by simp, fun o => World.frozen?_alloc_new w.drew _ _ o, fun j hj => ?_, fun j u hu => ?_⟩
    · rw [Nat.zero_add]
      have e1 : (w.drew.alloc (.cells ((xs ++ news).toArray ++ Builtin.zeroCells z.cells (grownCap w (n + m) cap e - (n + m))) e)).cell? ⟨w.heap.size, j, none⟩ = _ := World.cell?_alloc_new w.drew _ _ j
      rw [e1, Array.getElem?_eq_getElem (by rw [hsz]; exact hj)]
      rfl
    · rw [Nat.zero_add]
      have e1 : (w.drew.alloc (.cells ((xs ++ news).toArray ++ Builtin.zeroCells z.cells (grownCap w (n + m) cap e - (n + m))) e)).cell? ⟨w.heap.size, j, none⟩ = _ := World.cell?_alloc_new w.drew _ _ j
      have hj := (List.getElem?_eq_some_iff.1 hu).1
      rw [e1, Array.getElem?_append_left (by rw [List.size_toArray]; exact hj), List.getElem?_toArray]
      exact hu

/-- For the walk, at a plain region's list. -/
theorem wpList_append_sl (w : World) {ops : Array Oper} {rest : List Oper} {o : Oper} {ac : Act} {Q : Exit → Act → World → Prop} (hgd : o.guard = none) (s xo : Operand) (t : TypeId)
    (ho : o.op = .call { callee := .builtin .append, args := #[s, xo], argTypes := #[t, t] })
    (base : Nat) (e : TypeId) (i : TypeInfo) (z : Value) (size bytes : Nat) (ht : P.underlying t = some (.slice e)) (hi : P.info? e = some i) (hz : i.zero = some z) (hsize : i.size = size) (hby : i.bytes = bytes) (hzs : z.cells.size = size)
    (a : Option Addr) (n cap : Nat) (xs : List Value) (hv : ac.eval s = .slice a n cap) (h : SL w base size a n cap xs) (x : Value) (m : Nat) (news : List Value) (hx : ac.eval xo = x) (hs : Src P size t x m news w) (hm : 0 < m ∨ 0 < cap)
    (h63 : n + m ≤ maxLen) (hbytes : (n + m) * bytes ≤ 140737488355328) (hbase : base ≤ w.heap.size)
    (hK : ∀ a' cap' w', SL w' base size a' (n + m) cap' (xs ++ news) → w.grownBy w' (own a) → (own a' = own a ∨ own a' = some w.heap.size) → wpList P ops Q rest (ac.put o.dst (.slice a' (n + m) cap')) w') : wpList P ops Q (o :: rest) ac w := by
  refine wpList_plain hgd fun K hK' => ?_
  obtain ⟨a', cap', w', hrun, r1, r2, r3⟩ := run_append_sl (P := P) w base t o.type e i z size bytes ht hi hz hsize hby hzs a n cap xs h x m news hs hm h63 hbytes hbase
  unfold Oper.wp
  simp [execOp, ho, resolve, invoke, builtin, hv, hx, hrun, Result.andThen]
  exact hK' _ _ (hK a' cap' w' r1 r2 r3)
end
end Go.Proofs.Ytkjgklpdoomjcaa
