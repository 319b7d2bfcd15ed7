/- CONTRACTS OF muldiv.Unit. -/
import Derived.Test.YtngegkonijljnaaMulA
import Derived.Test.YtngegkonijljnaaCells
import Derived.Laws.EntriesVeiled
namespace Go.Proofs.Ytngegkonijljnaa
open Go.RowKit
set_option linter.unusedVariables false
set_option linter.unusedSimpArgs false
set_option maxHeartbeats 1600000
abbrev stepF (b : Nat) : Value := .func (.func 26) #[.pointer (some ⟨b, 0, none⟩)] #[]
/-- A unit in block b. -/
def U (w : World) (b : Nat) (busy : Bool) (left out : Int) : Prop :=
  w.cell? ⟨b, 0, none⟩ = some (stepF b) ∧ w.cell? ⟨b, 1, none⟩ = some (.bool busy) ∧ w.cell? ⟨b, 2, none⟩ = some (.int .i64 left) ∧ w.cell? ⟨b, 3, none⟩ = some (.int .u64 out) ∧ (∀ o, w.frozen? ⟨b, o, none⟩ = false) ∧ b < w.heap.size
theorem setCell_same {w : World} {a : Addr} {u v : Value} (h : w.cell? a = some u) : (w.setCell a v).cell? a = some v := World.cell?_setCell_same (h := h) ..
theorem setCell_off {w : World} {b p q : Nat} {u v : Value} (h : w.cell? ⟨b, p, none⟩ = some u) (hne : q ≠ p) : (w.setCell ⟨b, q, none⟩ v).cell? ⟨b, p, none⟩ = some u := by
  rw [World.cell?_setCell_other (h := by intro e'; injection e' with _ e''; exact hne e'')]; exact h
theorem U.later {w w' : World} {b B : Nat} {busy : Bool} {left out : Int} (h : U w b busy left out) (k : Below B w w') (hb : b < B) : U w' b busy left out := by
  obtain ⟨h0, h1, h2, h3, hf, hl⟩ := h
  exact ⟨(k.cell hb).trans h0, (k.cell hb).trans h1, (k.cell hb).trans h2, (k.cell hb).trans h3, fun o => (k.frozen hb).trans (hf o), Nat.lt_of_lt_of_le hl k.size⟩
theorem U.busyTo {w : World} {b : Nat} {busy : Bool} {left out : Int} (h : U w b busy left out) (v : Bool) : U (w.setCell ⟨b, 1, none⟩ (.bool v)) b v left out := by
  obtain ⟨h0, h1, h2, h3, hf, hl⟩ := h
  exact ⟨setCell_off h0 (by omega), setCell_same h1, setCell_off h2 (by omega), setCell_off h3 (by omega), fun o => by rw [World.frozen?_setCell]; exact hf o, by rw [size_setCell]; exact hl⟩
theorem U.leftTo {w : World} {b : Nat} {busy : Bool} {left out : Int} (h : U w b busy left out) (v : Int) : U (w.setCell ⟨b, 2, none⟩ (.int .i64 v)) b busy v out := by
  obtain ⟨h0, h1, h2, h3, hf, hl⟩ := h
  exact ⟨setCell_off h0 (by omega), setCell_off h1 (by omega), setCell_same h2, setCell_off h3 (by omega), fun o => by rw [World.frozen?_setCell]; exact hf o, by rw [size_setCell]; exact hl⟩
theorem U.outTo {w : World} {b : Nat} {busy : Bool} {left out : Int} (h : U w b busy left out) (v : Int) : U (w.setCell ⟨b, 3, none⟩ (.int .u64 v)) b busy left v := by
  obtain ⟨h0, h1, h2, h3, hf, hl⟩ := h
  exact ⟨setCell_off h0 (by omega), setCell_off h1 (by omega), setCell_off h2 (by omega), setCell_same h3, fun o => by rw [World.frozen?_setCell]; exact hf o, by rw [size_setCell]; exact hl⟩
theorem U.stepTo {w : World} {b : Nat} {f0 : Value} {busy : Bool} {left out : Int} (h0 : w.cell? ⟨b, 0, none⟩ = some f0) (h1 : w.cell? ⟨b, 1, none⟩ = some (.bool busy)) (h2 : w.cell? ⟨b, 2, none⟩ = some (.int .i64 left)) (h3 : w.cell? ⟨b, 3, none⟩ = some (.int .u64 out)) (hf : ∀ o, w.frozen? ⟨b, o, none⟩ = false) (hl : b < w.heap.size) : U (w.setCell ⟨b, 0, none⟩ (stepF b)) b busy left out :=
  ⟨setCell_same h0, setCell_off h1 (by omega), setCell_off h2 (by omega), setCell_off h3 (by omega), fun o => by rw [World.frozen?_setCell]; exact hf o, by rw [size_setCell]; exact hl⟩
/-- What a call of the unit's leaves: the unit as told, and all else below it. -/
def K (w w' : World) (b : Nat) : Prop := w.grownBy w' (some b) ∧ ∀ B, B ≤ b → Below B w w'
theorem K.refl (w : World) (b : Nat) : K w w b := ⟨World.grownBy.refl _ _, fun B _ => Below.refl B w⟩
theorem K.set {w w' : World} {b : Nat} (h : K w w' b) (o : Nat) (v : Value) : K w (w'.setCell ⟨b, o, none⟩ v) b := ⟨only_setCell h.1 (.inl rfl) _, fun B hB => (h.2 B hB).setCell hB v⟩
theorem K.trans {a b c : World} {n : Nat} (h : K a b n) (k : K b c n) : K a c n := ⟨only_trans h.1 k.1, fun B hB => (h.2 B hB).trans (k.2 B hB)⟩
set_option maxRecDepth 100000 in
theorem new_c (W : World) : Calls Try.prog 14 #[] W fun e w' => e = .returned (.pointer (some ⟨W.heap.size, 0, none⟩)) ∧ U w' W.heap.size false 0 0 ∧ Below W.heap.size W w' := by
  have XU := hide (show U (W.alloc (.cells #[stepF W.heap.size, .bool false, .int .i64 0, .int .u64 0] 48)) W.heap.size false 0 0 from
    ⟨by rw [World.cell?_alloc_new]; rfl, by rw [World.cell?_alloc_new]; rfl, by rw [World.cell?_alloc_new]; rfl, by rw [World.cell?_alloc_new]; rfl, fun o => World.frozen?_alloc_new .., by simp⟩)
  go_enter Try.func14, Try.ntmps14
  go_wp2
  go_ret
  exact ⟨rfl, XU.out, (Below.refl _ _).alloc (Nat.le_refl _) _⟩
set_option maxRecDepth 100000 in
theorem left_c {w : World} {b : Nat} {busy : Bool} {left out : Int} (h : U w b busy left out) : Calls Try.prog 20 #[.pointer (some ⟨b, 0, none⟩)] w fun e w' => e = .returned (.int .i64 left) ∧ w' = w := by
  obtain ⟨h0, h1, h2, h3, hf, hl⟩ := h
  go_enter Try.func20, Try.ntmps20
  go_wp2
  go_ret
  exact ⟨rfl, rfl⟩
set_option maxRecDepth 100000 in
theorem on_zero {w : World} {b : Nat} {busy : Bool} {out : Int} (h : U w b busy 0 out) : Calls Try.prog 26 #[.pointer (some ⟨b, 0, none⟩)] w fun e w' => e = .returned (.bool false) ∧ w' = w := by
  obtain ⟨h0, h1, h2, h3, hf, hl⟩ := h
  go_enter Try.func26, Try.ntmps26
  go_wp2
  go_ret
  exact ⟨rfl, rfl⟩
set_option maxRecDepth 100000 in
theorem on_more {w : World} {b : Nat} {busy : Bool} {n : Nat} {out : Int} (h : U w b busy (n + 1 : Nat) out) (hn : n < 1000) : Calls Try.prog 26 #[.pointer (some ⟨b, 0, none⟩)] w fun e w' => e = .returned (.bool true) ∧ U w' b busy n out ∧ K w w' b := by
  have HU := hide h
  have e1 : wrap64 (((n + 1 : Nat) : Int) - 1) = n := by unfold wrap64; omega
  have e2 : ((((n + 1 : Nat) : Int)) == 0) = false := beq_eq_false_iff_ne.2 (by omega)
  have e3 : ¬ (((n + 1 : Nat) : Int) = 0) := by omega
  generalize (((n + 1 : Nat) : Int)) = m at *
  obtain ⟨h0, h1, h2, h3, hf, hl⟩ := h
  go_enter Try.func26, Try.ntmps26
  go_wp2
  go_ret
  exact ⟨rfl, HU.out.leftTo _, (K.refl _ _).set _ _⟩
set_option maxRecDepth 100000 in
theorem step_zero {w : World} {b : Nat} {busy : Bool} {out : Int} (h : U w b busy 0 out) : Calls Try.prog 19 #[.pointer (some ⟨b, 0, none⟩)] w fun e w' => e = .returned (.bool false) ∧ w' = w := by
  have H := hide (on_zero h)
  obtain ⟨h0, h1, h2, h3, hf, hl⟩ := h
  go_enter Try.func19, Try.ntmps19
  go_wp2_with fail
  refine H.out.mono ?_
  rintro e w' ⟨rfl, rfl⟩
  simp only []
  go_wp2_with fail
  go_ret
  exact ⟨rfl, rfl⟩
set_option maxRecDepth 100000 in
theorem step_more {w : World} {b : Nat} {busy : Bool} {n : Nat} {out : Int} (h : U w b busy (n + 1 : Nat) out) (hn : n < 1000) : Calls Try.prog 19 #[.pointer (some ⟨b, 0, none⟩)] w fun e w' => e = .returned (.bool true) ∧ U w' b busy n out ∧ K w w' b := by
  have H := hide (on_more h hn)
  obtain ⟨h0, h1, h2, h3, hf, hl⟩ := h
  go_enter Try.func19, Try.ntmps19
  go_wp2_with fail
  refine H.out.mono ?_
  rintro e w' ⟨rfl, hu, hk⟩
  have U1 := hide hu
  have K1 := hide hk
  clear hu hk
  simp only []
  go_wp2_with fail
  go_ret
  exact ⟨rfl, U1.out, K1.out⟩
theorem tuple2 {v1 v2 : Value} : True := trivial
set_option maxRecDepth 100000 in
theorem take_done {w : World} {b : Nat} {out : Int} (h : U w b true 0 out) : Calls Try.prog 17 #[.pointer (some ⟨b, 0, none⟩)] w fun e w' => e = .returned (.tuple #[.int .u64 out, .bool true]) ∧ U w' b false 0 out ∧ K w w' b := by
  have HU := hide h
  obtain ⟨h0, h1, h2, h3, hf, hl⟩ := h
  go_enter Try.func17, Try.ntmps17
  go_wp2
  refine bodyPost_ret (v := .tuple #[.int .u64 out, .bool true]) (by simp [results, Try.results17, go_sem]) rfl ?_
  exact ⟨rfl, HU.out.busyTo _, (K.refl _ _).set _ _⟩
set_option maxRecDepth 100000 in
theorem take_not {w : World} {b : Nat} {busy : Bool} {left out : Int} (h : U w b busy left out) (hn : busy = false ∨ busy = true ∧ 0 < left) : Calls Try.prog 17 #[.pointer (some ⟨b, 0, none⟩)] w fun e w' => e = .returned (.tuple #[.int .u64 0, .bool false]) ∧ w' = w := by
  obtain ⟨h0, h1, h2, h3, hf, hl⟩ := h
  rcases hn with rfl | ⟨rfl, hp⟩
  · go_enter Try.func17, Try.ntmps17
    go_wp2
    refine bodyPost_ret (v := .tuple #[.int .u64 0, .bool false]) (by simp [results, Try.results17, go_sem]) rfl ?_
    exact ⟨rfl, rfl⟩
  · have d : decide (0 < left) = true := decide_eq_true hp
    go_enter Try.func17, Try.ntmps17
    go_wp2
    refine bodyPost_ret (v := .tuple #[.int .u64 0, .bool false]) (by simp [results, Try.results17, go_sem]) rfl ?_
    exact ⟨rfl, rfl⟩
set_option maxRecDepth 100000 in
theorem drop_yes {w : World} {b : Nat} {left out : Int} (h : U w b true left out) : Calls Try.prog 18 #[.pointer (some ⟨b, 0, none⟩)] w fun e w' => e = .returned (.bool true) ∧ U w' b false 0 out ∧ K w w' b := by
  have HU := hide h
  obtain ⟨h0, h1, h2, h3, hf, hl⟩ := h
  go_enter Try.func18, Try.ntmps18
  go_wp2
  go_ret
  exact ⟨rfl, (HU.out.busyTo _).leftTo _, ((K.refl _ _).set _ _).set _ _⟩
set_option maxRecDepth 100000 in
theorem drop_no {w : World} {b : Nat} {left out : Int} (h : U w b false left out) : Calls Try.prog 18 #[.pointer (some ⟨b, 0, none⟩)] w fun e w' => e = .returned (.bool false) ∧ w' = w := by
  obtain ⟨h0, h1, h2, h3, hf, hl⟩ := h
  go_enter Try.func18, Try.ntmps18
  go_wp2
  go_ret
  exact ⟨rfl, rfl⟩
/-- The nil unit. -/
theorem nil_take (w : World) : Calls Try.prog 17 #[.pointer none] w fun e w' => e = .returned (.tuple #[.int .u64 0, .bool false]) ∧ w' = w := by
  go_enter Try.func17, Try.ntmps17
  go_wp2
  refine bodyPost_ret (v := .tuple #[.int .u64 0, .bool false]) (by simp [results, Try.results17, go_sem]) rfl ?_
  exact ⟨rfl, rfl⟩
theorem nil_drop (w : World) : Calls Try.prog 18 #[.pointer none] w fun e w' => e = .returned (.bool false) ∧ w' = w := by
  go_enter Try.func18, Try.ntmps18
  go_wp2
  go_ret
  exact ⟨rfl, rfl⟩
theorem nil_step (w : World) : Calls Try.prog 19 #[.pointer none] w fun e w' => e = .returned (.bool false) ∧ w' = w := by
  go_enter Try.func19, Try.ntmps19
  go_wp2
  go_ret
  exact ⟨rfl, rfl⟩
theorem nil_left (w : World) : Calls Try.prog 20 #[.pointer none] w fun e w' => e = .returned (.int .i64 0) ∧ w' = w := by
  go_enter Try.func20, Try.ntmps20
  go_wp2
  go_ret
  exact ⟨rfl, rfl⟩
theorem nil_start (w : World) (f : Int) (word : Bool) (x y : Int) : Calls Try.prog 16 #[.pointer none, .int .i64 f, .bool word, .int .u64 x, .int .u64 y] w fun e w' => e = .returned (.int .i64 2) ∧ w' = w := by
  go_enter Try.func16, Try.ntmps16
  go_wp2
  go_ret
  exact ⟨rfl, rfl⟩
set_option maxRecDepth 100000 in
theorem start_busy {w : World} {b : Nat} {left out : Int} (h : U w b true left out) (f : Int) (word : Bool) (x y : Int) : Calls Try.prog 16 #[.pointer (some ⟨b, 0, none⟩), .int .i64 f, .bool word, .int .u64 x, .int .u64 y] w fun e w' => e = .returned (.int .i64 8) ∧ w' = w := by
  obtain ⟨h0, h1, h2, h3, hf, hl⟩ := h
  go_enter Try.func16, Try.ntmps16
  go_wp2
  go_ret
  exact ⟨rfl, rfl⟩
set_option maxRecDepth 100000 in
theorem start_arg {w : World} {b : Nat} {left out : Int} (h : U w b false left out) (f : Int) (word : Bool) (x y : Int) (hf : f < 0 ∨ 7 < f ∨ word = true ∧ 0 < f ∧ f < 4) : Calls Try.prog 16 #[.pointer (some ⟨b, 0, none⟩), .int .i64 f, .bool word, .int .u64 x, .int .u64 y] w fun e w' => e = .returned (.int .i64 1) ∧ w' = w := by
  obtain ⟨h0, h1, h2, h3, hz, hl⟩ := h
  by_cases c1 : f < 0
  · have d1 : decide (f < 0) = true := decide_eq_true c1
    cases word
    all_goals
      go_enter Try.func16, Try.ntmps16
      go_wp2
      go_ret
      exact ⟨rfl, rfl⟩
  · have d1 : decide (f < 0) = false := decide_eq_false c1
    by_cases c2 : 7 < f
    · have d2 : decide (7 < f) = true := decide_eq_true c2
      cases word
      all_goals
        go_enter Try.func16, Try.ntmps16
        go_wp2
        go_ret
        exact ⟨rfl, rfl⟩
    · have d2 : decide (7 < f) = false := decide_eq_false c2
      obtain ⟨rfl, c3, c4⟩ : word = true ∧ 0 < f ∧ f < 4 := by rcases hf with h | h | h <;> first | exact absurd h c1 | exact absurd h c2 | exact h
      have d3 : decide (0 < f) = true := decide_eq_true c3
      have d4 : decide (f < 4) = true := decide_eq_true c4
      go_enter Try.func16, Try.ntmps16
      go_wp2
      go_ret
      exact ⟨rfl, rfl⟩
def Qk (f : Int) (word : Bool) (x y : BitVec 64) (q : Bool) : Prop := ∀ w : World, Calls Try.prog 27 #[.int .i64 f, .bool word, .int .u64 x.toNat, .int .u64 y.toNat] w fun e w' => e = .returned (.bool q) ∧ w' = w
set_option maxRecDepth 100000 in
theorem start_ok {w : World} {b : Nat} {left out : Int} (h : U w b false left out) (f : Int) (word : Bool) (x y r : BitVec 64) (q : Bool) (f0 : 0 ≤ f) (f7 : f ≤ 7) (fw : word = true → f ≤ 0 ∨ 4 ≤ f) (hR : R f word x y r) (hQ : Qk f word x y q) (n : Int) (hn : (if q then 1 else if word then 32 else 64) = n) :
    Calls Try.prog 16 #[.pointer (some ⟨b, 0, none⟩), .int .i64 f, .bool word, .int .u64 x.toNat, .int .u64 y.toNat] w fun e w' => e = .returned (.int .i64 0) ∧ U w' b true n r.toNat ∧ K w w' b := by
  have HU := hide h
  have HR := hide hR
  have HQ := hide hQ
  obtain ⟨h0, h1, h2, h3, hz, hl⟩ := h
  have d1 : decide (f < 0) = false := decide_eq_false (by omega)
  have d2 : decide (7 < f) = false := decide_eq_false (by omega)
  have d3 : word = true → decide (0 < f) = false ∨ decide (0 < f) = true ∧ decide (f < 4) = false := fun e => by
    rcases fw e with k | k
    · left; exact decide_eq_false (by omega)
    · right; exact ⟨decide_eq_true (by omega), decide_eq_false (by omega)⟩
  clear hR hQ f0 f7 fw
  subst hn
  have fin := hide (fun v : Int => And.intro ((((HU.out.busyTo true).outTo r.toNat)).leftTo v) ((((K.refl w b).set 1 (.bool true)).set 3 (.int .u64 r.toNat)).set 2 (.int .i64 v)))
  have HV := hide ((HU.out.busyTo true).outTo r.toNat)
  have S1 := hide HV.out.1
  have S2 := hide HV.out.2.1
  have S3 := hide HV.out.2.2.1
  have S4 := hide HV.out.2.2.2.1
  have S5 := hide HV.out.2.2.2.2.1
  cases word with
  | false =>
    clear d3
    cases q
    all_goals
      go_enter Try.func16, Try.ntmps16
      go_wp2_with fail
      refine (HR.out _).mono ?_
      rintro e w1 ⟨rfl, rfl⟩
      simp only []
      go_wp2_with fail
      refine (HQ.out _).mono ?_
      rintro e w2 ⟨rfl, rfl⟩
      simp only []
      have s3 := S3.out
      have s5 := S5.out
      go_wp2_with fail
      go_ret
      exact ⟨rfl, (fin.out _).1, (fin.out _).2⟩
  | true =>
    rcases d3 rfl with d3 | ⟨d3, d4⟩
    all_goals
      cases q
      all_goals
        go_enter Try.func16, Try.ntmps16
        go_wp2_with fail
        refine (HR.out _).mono ?_
        rintro e w1 ⟨rfl, rfl⟩
        simp only []
        go_wp2_with fail
        refine (HQ.out _).mono ?_
        rintro e w2 ⟨rfl, rfl⟩
        simp only []
        have s3 := S3.out
        have s5 := S5.out
        go_wp2_with fail
        go_ret
        exact ⟨rfl, (fin.out _).1, (fin.out _).2⟩
set_option maxRecDepth 100000 in
theorem quick_less (f : Int) (word : Bool) (x y : BitVec 64) (h : f < 4) : Qk f word x y false := by
  intro w
  have d : decide (f < 4) = true := decide_eq_true h
  go_enter Try.func27, Try.ntmps27
  go_wp2
  go_ret
  exact ⟨rfl, rfl⟩
set_option maxRecDepth 100000 in
theorem quick_4f (x y : BitVec 64) : Qk 4 false x y ((((y.toNat : Nat) : Int) == 0) || (((x.toNat : Nat) : Int) == 9223372036854775808) && (((y.toNat : Nat) : Int) == 18446744073709551615)) := by
  intro w
  generalize h1 : (((y.toNat : Nat) : Int) == 0) = b1
  generalize h2 : (((x.toNat : Nat) : Int) == 9223372036854775808) = b2
  generalize h3 : (((y.toNat : Nat) : Int) == 18446744073709551615) = b3
  cases b1 <;> cases b2 <;> cases b3
  all_goals
    go_enter Try.func27, Try.ntmps27
    go_wp2
    go_ret
    exact ⟨rfl, rfl⟩
set_option maxRecDepth 100000 in
theorem quick_4t (x y : BitVec 64) : Qk 4 true x y (((((y.setWidth 32).toNat : Nat) : Int) == 0) || ((((x.setWidth 32).toNat : Nat) : Int) == 2147483648) && ((((y.setWidth 32).toNat : Nat) : Int) == 4294967295)) := by
  intro w
  have hx := u32_low' x
  have hy := u32_low' y
  generalize x.setWidth 32 = xs at *
  generalize y.setWidth 32 = ys at *
  generalize h1 : (((ys.toNat : Nat) : Int) == 0) = b1
  generalize h2 : (((xs.toNat : Nat) : Int) == 2147483648) = b2
  generalize h3 : (((ys.toNat : Nat) : Int) == 4294967295) = b3
  cases b1 <;> cases b2 <;> cases b3
  all_goals
    go_enter Try.func27, Try.ntmps27
    go_wp2
    go_ret
    exact ⟨rfl, rfl⟩
set_option maxRecDepth 100000 in
theorem quick_6f (x y : BitVec 64) : Qk 6 false x y ((((y.toNat : Nat) : Int) == 0) || (((x.toNat : Nat) : Int) == 9223372036854775808) && (((y.toNat : Nat) : Int) == 18446744073709551615)) := by
  intro w
  generalize h1 : (((y.toNat : Nat) : Int) == 0) = b1
  generalize h2 : (((x.toNat : Nat) : Int) == 9223372036854775808) = b2
  generalize h3 : (((y.toNat : Nat) : Int) == 18446744073709551615) = b3
  cases b1 <;> cases b2 <;> cases b3
  all_goals
    go_enter Try.func27, Try.ntmps27
    go_wp2
    go_ret
    exact ⟨rfl, rfl⟩
set_option maxRecDepth 100000 in
theorem quick_6t (x y : BitVec 64) : Qk 6 true x y (((((y.setWidth 32).toNat : Nat) : Int) == 0) || ((((x.setWidth 32).toNat : Nat) : Int) == 2147483648) && ((((y.setWidth 32).toNat : Nat) : Int) == 4294967295)) := by
  intro w
  have hx := u32_low' x
  have hy := u32_low' y
  generalize x.setWidth 32 = xs at *
  generalize y.setWidth 32 = ys at *
  generalize h1 : (((ys.toNat : Nat) : Int) == 0) = b1
  generalize h2 : (((xs.toNat : Nat) : Int) == 2147483648) = b2
  generalize h3 : (((ys.toNat : Nat) : Int) == 4294967295) = b3
  cases b1 <;> cases b2 <;> cases b3
  all_goals
    go_enter Try.func27, Try.ntmps27
    go_wp2
    go_ret
    exact ⟨rfl, rfl⟩
set_option maxRecDepth 100000 in
theorem quick_5f (x y : BitVec 64) : Qk 5 false x y ((((y.toNat : Nat) : Int) == 0)) := by
  intro w
  generalize h1 : (((y.toNat : Nat) : Int) == 0) = b1
  cases b1
  all_goals
    go_enter Try.func27, Try.ntmps27
    go_wp2
    go_ret
    exact ⟨rfl, rfl⟩
set_option maxRecDepth 100000 in
theorem quick_5t (x y : BitVec 64) : Qk 5 true x y (((((y.setWidth 32).toNat : Nat) : Int) == 0)) := by
  intro w
  have hx := u32_low' x
  have hy := u32_low' y
  generalize x.setWidth 32 = xs at *
  generalize y.setWidth 32 = ys at *
  generalize h1 : (((ys.toNat : Nat) : Int) == 0) = b1
  cases b1
  all_goals
    go_enter Try.func27, Try.ntmps27
    go_wp2
    go_ret
    exact ⟨rfl, rfl⟩
set_option maxRecDepth 100000 in
theorem quick_7f (x y : BitVec 64) : Qk 7 false x y ((((y.toNat : Nat) : Int) == 0)) := by
  intro w
  generalize h1 : (((y.toNat : Nat) : Int) == 0) = b1
  cases b1
  all_goals
    go_enter Try.func27, Try.ntmps27
    go_wp2
    go_ret
    exact ⟨rfl, rfl⟩
set_option maxRecDepth 100000 in
theorem quick_7t (x y : BitVec 64) : Qk 7 true x y (((((y.setWidth 32).toNat : Nat) : Int) == 0)) := by
  intro w
  have hx := u32_low' x
  have hy := u32_low' y
  generalize x.setWidth 32 = xs at *
  generalize y.setWidth 32 = ys at *
  generalize h1 : (((ys.toNat : Nat) : Int) == 0) = b1
  cases b1
  all_goals
    go_enter Try.func27, Try.ntmps27
    go_wp2
    go_ret
    exact ⟨rfl, rfl⟩
set_option maxRecDepth 100000 in
theorem awake_c (W : World) : Calls Try.prog 11 #[] W fun e w' => e = .returned (.bool true) ∧ Below W.heap.size W w' := by
  have N := hide (new_c W)
  have RR := hide (result_long 4 7#64 2#64 _ (long_q 4 7#64 2#64 _ (by decide) (by decide) (by decide) (by decide) (quo_4 7#64 2#64 (by decide))))
  rw [show sdv 7#64 2#64 = 3#64 from by decide] at RR
  have R5 := result_long 5 9#64 0#64 _ (long_q 5 9#64 0#64 _ (by decide) (by decide) (by decide) (by decide) (quo_5z 9#64))
  have Q5 := quick_5f 9#64 0#64
  rw [show ((((0#64).toNat : Nat) : Int) == 0) = true from by decide] at Q5
  have ST := hide (fun (w : World) (h : U w W.heap.size false 0 0) => start_ok h 5 false 9#64 0#64 _ true (by decide) (by decide) (fun e => by cases e) R5 Q5 1 rfl)
  clear R5 Q5
  go_enter Try.func11, Try.ntmps11
  go_wp2_with fail
  refine N.out.mono ?_
  rintro e w1 ⟨rfl, hu, hb⟩
  have U1 := hide hu
  have B1 := hide hb
  clear hu hb
  simp only []
  go_wp2_with fail
  refine (RR.out _).mono ?_
  rintro e w2 ⟨rfl, rfl⟩
  simp only []
  go_wp2_with fail
  refine (ST.out _ U1.out).mono ?_
  rintro e w3 ⟨rfl, hu, hk⟩
  have U2 := hide hu
  have B2 := hide (B1.out.trans (hk.2 _ (Nat.le_refl _)))
  clear hu hk
  simp only []
  go_wp2_with fail
  refine (left_c U2.out).mono ?_
  rintro e w4 ⟨rfl, rfl⟩
  simp only []
  go_wp2_with fail
  go_ret
  exact ⟨rfl, B2.out⟩
set_option maxRecDepth 100000 in
theorem mnil_walk (f : Int) (x y : Int) (W : World) : Calls Try.prog 9 #[.int .i64 f, .int .u64 x, .int .u64 y] W fun e w' => e = .returned (.bool true) ∧ Below W.heap.size W w' := by
  go_enter Try.func9, Try.ntmps9
  go_wp2_with fail
  refine (nil_take _).mono ?_
  rintro e w1 ⟨rfl, rfl⟩
  simp only []
  go_wp2_with fail
  refine (awake_c _).mono ?_
  rintro e w2 ⟨rfl, hb⟩
  have B1 := hide hb
  clear hb
  simp only []
  go_wp2_with fail
  refine (nil_start _ _ _ _ _).mono ?_
  rintro e w3 ⟨rfl, rfl⟩
  simp only []
  go_wp2_with fail
  refine (nil_step _).mono ?_
  rintro e w3 ⟨rfl, rfl⟩
  simp only []
  go_wp2_with fail
  refine (nil_left _).mono ?_
  rintro e w3 ⟨rfl, rfl⟩
  simp only []
  go_wp2_with fail
  refine (nil_drop _).mono ?_
  rintro e w3 ⟨rfl, rfl⟩
  simp only []
  go_wp2_with fail
  go_ret
  exact ⟨rfl, B1.out⟩
end Go.Proofs.Ytngegkonijljnaa

