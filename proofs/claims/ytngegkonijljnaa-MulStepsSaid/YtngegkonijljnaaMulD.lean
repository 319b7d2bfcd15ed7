/- CONTRACTS OF THE DOCUMENT'S PRODUCTS AND QUOTIENTS: add, twice, extend, quotient, size. -/
import Derived.Test.YtngegkonijljnaaRefsL
import Derived.Test.YtngegkonijljnaaCells
namespace Go.Proofs.Ytngegkonijljnaa
open Go.RowKit
set_option linter.unusedVariables false
set_option linter.unusedSimpArgs false
set_option maxHeartbeats 1600000
def hi (v : BitVec 128) : BitVec 64 := BitVec.ofNat 64 (v.toNat / 18446744073709551616)
def lo (v : BitVec 128) : BitVec 64 := BitVec.ofNat 64 v.toNat
abbrev D (v : BitVec 128) : Value := .agg #[.int .u64 (hi v).toNat, .int .u64 (lo v).toNat]
theorem hi_nat (v : BitVec 128) : (hi v).toNat = v.toNat / 18446744073709551616 := by unfold hi; rw [BitVec.toNat_ofNat]; have := v.isLt; omega
theorem lo_nat (v : BitVec 128) : (lo v).toNat = v.toNat % 18446744073709551616 := by unfold lo; rw [BitVec.toNat_ofNat]
theorem of_parts {h l : BitVec 64} {v : BitVec 128} (e : h.toNat * 18446744073709551616 + l.toNat = v.toNat) : h = hi v ∧ l = lo v := by
  have := l.isLt
  exact ⟨BitVec.eq_of_toNat_eq (by rw [hi_nat]; omega), BitVec.eq_of_toNat_eq (by rw [lo_nat]; omega)⟩
theorem below_alloc (w : World) (o : Obj) : Below w.heap.size w (w.alloc o) := ⟨rfl, rfl, rfl, by simp, fun i hi => Below.heap_alloc w o i hi⟩
theorem below_alloc3 (w : World) (o p q : Obj) : Below w.heap.size w (((w.alloc o).alloc p).alloc q) := (below_alloc _ _).trans (((below_alloc _ _).mono (by simp)).trans ((below_alloc _ _).mono (by simp; omega)))
set_option maxRecDepth 100000 in
theorem add_c (u v : BitVec 128) (w : World) : Calls Try.prog 37 #[D u, D v] w fun e w' => e = .returned (D (u + v)) ∧ Below w.heap.size w w' := by
  unfold D
  have e1 := add64 (lo u) (lo v)
  have e2 := add64 (hi u) (hi v)
  have e3 := add64 (hi u + hi v) 1#64
  rw [show ((1#64).toNat : Int) = 1 from rfl] at e3
  have s := BitVec.toNat_add u v
  have a1 := hi_nat u
  have a2 := lo_nat u
  have a3 := hi_nat v
  have a4 := lo_nat v
  have b1 := BitVec.toNat_add (lo u) (lo v)
  have b2 := BitVec.toNat_add (hi u) (hi v)
  have b3 := BitVec.toNat_add (hi u + hi v) 1#64
  rw [show (1#64).toNat = 1 from rfl] at b3
  have RES : Hid ((¬ (lo u + lo v).toNat < (lo u).toNat → hi u + hi v = hi (u + v) ∧ lo u + lo v = lo (u + v)) ∧ ((lo u + lo v).toNat < (lo u).toNat → hi u + hi v + 1#64 = hi (u + v) ∧ lo u + lo v = lo (u + v))) := by
    unfold Hid
    have := u.isLt; have := v.isLt
    constructor <;> intro h <;> exact of_parts (by omega)
  clear s a1 a2 a3 a4 b1 b2 b3
  generalize hi u + hi v + 1#64 = h2 at *
  generalize hi u + hi v = h at *
  generalize lo u + lo v = l at *
  generalize u + v = uv at *
  generalize hi u = a at *
  generalize lo u = b at *
  generalize hi v = c at *
  generalize lo v = d at *
  by_cases hc : l.toNat < b.toNat
  · have dc : decide (l.toNat < b.toNat) = true := decide_eq_true hc
    obtain ⟨R1, R2⟩ := RES.out.2 hc
    rw [← R1, ← R2]
    clear hc RES R1 R2
    go_enter Try.func37, Try.ntmps37
    go_wp2
    refine bodyPost_ret (v := .agg #[.int .u64 h2.toNat, .int .u64 l.toNat]) (by simp [results, Try.results37, go_sem]) rfl ?_
    exact ⟨rfl, below_alloc3 _ _ _ _⟩
  · have dc : decide (l.toNat < b.toNat) = false := decide_eq_false hc
    obtain ⟨R1, R2⟩ := RES.out.1 hc
    rw [← R1, ← R2]
    clear hc RES R1 R2
    go_enter Try.func37, Try.ntmps37
    go_wp2
    refine bodyPost_ret (v := .agg #[.int .u64 h.toNat, .int .u64 l.toNat]) (by simp [results, Try.results37, go_sem]) rfl ?_
    exact ⟨rfl, below_alloc3 _ _ _ _⟩
/-- A wide word in block b. -/
def WB (w : World) (b : Nat) (h l : Int) : Prop := w.cell? ⟨b, 0, none⟩ = some (.int .u64 h) ∧ w.cell? ⟨b, 1, none⟩ = some (.int .u64 l) ∧ (∀ o, w.frozen? ⟨b, o, none⟩ = false) ∧ b < w.heap.size
theorem WB.later {w w' : World} {b B : Nat} {h l : Int} (k : WB w b h l) (hb : Below B w w') (lt : b < B) : WB w' b h l :=
  ⟨(hb.cell lt).trans k.1, (hb.cell lt).trans k.2.1, fun o => (hb.frozen lt).trans (k.2.2.1 o), Nat.lt_of_lt_of_le k.2.2.2 hb.size⟩
theorem WB.new (w : World) (h l : Int) (T : TypeId) : WB (w.alloc (.cells #[.int .u64 h, .int .u64 l] T)) w.heap.size h l :=
  ⟨by rw [World.cell?_alloc_new]; rfl, by rw [World.cell?_alloc_new]; rfl, fun o => World.frozen?_alloc_new .., by simp⟩
theorem WB.new2 (w : World) (o : Obj) (h l : Int) (T : TypeId) : WB ((w.alloc o).alloc (.cells #[.int .u64 h, .int .u64 l] T)) (w.heap.size + 1) h l := by
  have := WB.new (w.alloc o) h l T
  rwa [World.size_alloc] at this
theorem below_alloc2 (w : World) (o p : Obj) : Below w.heap.size w ((w.alloc o).alloc p) := (below_alloc _ _).trans ((below_alloc _ _).mono (by simp))
set_option maxRecDepth 100000 in
theorem twice_c (u : BitVec 128) (w : World) : Calls Try.prog 38 #[D u] w fun e w' => e = .returned (D (u + u)) ∧ Below w.heap.size w w' := by
  have A := add_c u u
  unfold D at A ⊢
  replace A := hide A
  generalize hi (u + u) = rh at *
  generalize lo (u + u) = rl at *
  generalize hi u = a at *
  generalize lo u = b at *
  go_enter Try.func38, Try.ntmps38
  go_wp2_with fail
  refine (A.out _).mono ?_
  rintro e w1 ⟨rfl, hb⟩
  have B1 := hide ((below_alloc2 w _ _).trans (hb.mono (by simp; omega)))
  have W1 := hide ((WB.new2 w (.cells #[.int .u64 a.toNat, .int .u64 b.toNat] 51) 0 0 51).later hb (by simp))
  clear hb
  simp only []
  obtain ⟨c0, c1, cf, cl⟩ := W1.out
  go_wp2_with fail
  refine bodyPost_ret (v := .agg #[.int .u64 rh.toNat, .int .u64 rl.toNat]) (by simp [results, Try.results38, go_sem, *]) rfl ?_
  exact ⟨rfl, (B1.out.setCell (by simp) _).setCell (by simp) _⟩
theorem ext_nat (x : BitVec 64) : hi (x.setWidth 128) = 0#64 ∧ lo (x.setWidth 128) = x := by
  have := x.isLt
  have h : (0#64).toNat * 18446744073709551616 + x.toNat = (x.setWidth 128).toNat := by
    rw [BitVec.toNat_setWidth]; simp; omega
  obtain ⟨h1, h2⟩ := of_parts h
  exact ⟨h1.symm, h2.symm⟩
theorem sext_nat (x : BitVec 64) (m : x.msb = true) : hi (x.signExtend 128) = -1#64 ∧ lo (x.signExtend 128) = x := by
  have l := x.isLt
  have h : (-1#64).toNat * 18446744073709551616 + x.toNat = (x.signExtend 128).toNat := by
    rw [BitVec.toNat_signExtend, m, if_pos rfl, BitVec.toNat_setWidth, show (-1#64).toNat = 18446744073709551615 from by decide]
    omega
  obtain ⟨h1, h2⟩ := of_parts h
  exact ⟨h1.symm, h2.symm⟩
theorem shr_top (x : BitVec 64) : (x.toNat : Int) / 9223372036854775808 = if x.msb then 1 else 0 := by
  have := x.isLt
  have m := BitVec.msb_eq_decide x
  cases h : x.msb
  · rw [h] at m
    have := of_decide_eq_false m.symm
    simp; omega
  · rw [h] at m
    have := of_decide_eq_true m.symm
    simp; omega
set_option maxRecDepth 100000 in
theorem extend_u (x : BitVec 64) (w : World) : Calls Try.prog 31 #[.int .u64 x.toNat, .bool false] w fun e w' => e = .returned (D (x.setWidth 128)) ∧ Below w.heap.size w w' := by
  obtain ⟨h1, h2⟩ := ext_nat x
  unfold D
  rw [h1, h2]
  go_enter Try.func31, Try.ntmps31
  go_wp2
  refine bodyPost_ret (v := .agg #[.int .u64 0, .int .u64 x.toNat]) (by simp [results, Try.results31, go_sem]) rfl ?_
  exact ⟨rfl, below_alloc _ _⟩
set_option maxRecDepth 100000 in
theorem extend_s (x : BitVec 64) (w : World) : Calls Try.prog 31 #[.int .u64 x.toNat, .bool true] w fun e w' => e = .returned (D (x.signExtend 128)) ∧ Below w.heap.size w w' := by
  have st := shr_top x
  have z : ((-1#64).toNat : Int) = 18446744073709551615 := by decide
  unfold D
  cases m : x.msb
  · obtain ⟨h1, h2⟩ := ext_nat x
    rw [BitVec.signExtend_eq_setWidth_of_msb_false m, h1, h2]
    rw [m] at st
    simp only [Bool.false_eq_true, if_false] at st
    clear m h1 h2
    go_enter Try.func31, Try.ntmps31
    go_wp2
    refine bodyPost_ret (v := .agg #[.int .u64 0, .int .u64 x.toNat]) (by simp [results, Try.results31, go_sem]) rfl ?_
    exact ⟨rfl, below_alloc _ _⟩
  · obtain ⟨h1, h2⟩ := sext_nat x m
    rw [h1, h2, z]
    rw [m] at st
    simp only [if_true] at st
    clear m h1 h2
    go_enter Try.func31, Try.ntmps31
    go_wp2
    refine bodyPost_ret (v := .agg #[.int .u64 18446744073709551615, .int .u64 x.toNat]) (by simp [results, Try.results31, go_sem]) rfl ?_
    exact ⟨rfl, below_alloc _ _⟩
/-- Without its sign. -/
def mag (x : BitVec 64) : BitVec 64 := if x.msb then -x else x
set_option maxRecDepth 100000 in
theorem size_c (x : BitVec 64) (w : World) : Calls Try.prog 33 #[.int .u64 x.toNat] w fun e w' => e = .returned (.int .u64 (mag x).toNat) ∧ w' = w := by
  have st := shr_top x
  have ng := neg64 x
  unfold mag
  cases m : x.msb
  all_goals
    rw [m] at st
    clear m
    simp only [Bool.false_eq_true, if_false, if_true] at st ⊢
    (try generalize -x = y at *)
    go_enter Try.func33, Try.ntmps33
    go_wp2
    go_ret
    first
    | exact ⟨rfl, rfl⟩
    | exact ⟨congrArg (fun n => Ending.returned (.int .u64 n)) ng, rfl⟩
end Go.Proofs.Ytngegkonijljnaa

