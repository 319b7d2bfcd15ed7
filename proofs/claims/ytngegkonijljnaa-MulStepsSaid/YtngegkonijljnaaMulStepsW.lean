/- MulSteps: the walk. -/
import Derived.Test.YtngegkonijljnaaMulT
import Derived.Test.YtngegkonijljnaaMulOpen
namespace Go.Proofs.Ytngegkonijljnaa
open Go.RowKit
set_option linter.unusedVariables false
set_option linter.unusedSimpArgs false
set_option maxHeartbeats 40000000
/-- A box of a call of the script's. -/
def AT (w : World) (b : Nat) (k f : Int) (word : Bool) (x y : Int) : Prop :=
  w.cell? ⟨b, 0, none⟩ = some (.int .i64 k) ∧ w.cell? ⟨b, 1, none⟩ = some (.int .i64 f) ∧ w.cell? ⟨b, 2, none⟩ = some (.bool word) ∧ w.cell? ⟨b, 3, none⟩ = some (.int .u64 x) ∧ w.cell? ⟨b, 4, none⟩ = some (.int .u64 y) ∧ (∀ o, w.frozen? ⟨b, o, none⟩ = false) ∧ b < w.heap.size
theorem AT.later {w w' : World} {b B : Nat} {k f : Int} {word : Bool} {x y : Int} (h : AT w b k f word x y) (kb : Below B w w') (lt : b < B) : AT w' b k f word x y := by
  obtain ⟨h0, h1, h2, h3, h4, hf, hl⟩ := h
  exact ⟨(kb.cell lt).trans h0, (kb.cell lt).trans h1, (kb.cell lt).trans h2, (kb.cell lt).trans h3, (kb.cell lt).trans h4, fun o => (kb.frozen lt).trans (hf o), Nat.lt_of_lt_of_le hl kb.size⟩
theorem AT.new (w : World) (k f : Int) (word : Bool) (x y : Int) (T : TypeId) : AT (w.alloc (.cells #[.int .i64 k, .int .i64 f, .bool word, .int .u64 x, .int .u64 y] T)) w.heap.size k f word x y := by
  refine ⟨?_, ?_, ?_, ?_, ?_, fun o => World.frozen?_alloc_new .., by simp⟩ <;> (rw [World.cell?_alloc_new]; rfl)
/-- The state of a unit's script. -/
inductive Sta | idle | busy (n : Nat) | done
def Sta.left : Sta → Nat | .busy n => n + 1 | _ => 0
def Sta.isDone : Sta → Bool | .done => true | _ => false
def Sta.on : Sta → Bool | .idle => false | _ => true
theorem AT.store {w : World} {b : Nat} {k f : Int} {word : Bool} {x y : Int} (h : AT w b k f word x y) (k2 f2 : Int) (word2 : Bool) (x2 y2 : Int) :
    AT (((((w.setCell ⟨b, 0, none⟩ (.int .i64 k2)).setCell ⟨b, 1, none⟩ (.int .i64 f2)).setCell ⟨b, 2, none⟩ (.bool word2)).setCell ⟨b, 3, none⟩ (.int .u64 x2)).setCell ⟨b, 4, none⟩ (.int .u64 y2)) b k2 f2 word2 x2 y2 := by
  obtain ⟨h0, h1, h2, h3, h4, hf, hl⟩ := h
  have g : ∀ (w : World) (p q : Nat) (v u : Value), w.cell? ⟨b, p, none⟩ = some u → q ≠ p → (w.setCell ⟨b, q, none⟩ v).cell? ⟨b, p, none⟩ = some u := fun w p q v u h hne => setCell_off h hne
  refine ⟨?_, ?_, ?_, ?_, ?_, fun o => by simp only [World.frozen?_setCell]; exact hf o, by simp only [size_setCell]; exact hl⟩
  · exact g _ _ _ _ _ (g _ _ _ _ _ (g _ _ _ _ _ (g _ _ _ _ _ (setCell_same h0) (by omega)) (by omega)) (by omega)) (by omega)
  · exact g _ _ _ _ _ (g _ _ _ _ _ (g _ _ _ _ _ (setCell_same (g _ _ _ _ _ h1 (by omega))) (by omega)) (by omega)) (by omega)
  · exact g _ _ _ _ _ (g _ _ _ _ _ (setCell_same (g _ _ _ _ _ (g _ _ _ _ _ h2 (by omega)) (by omega))) (by omega)) (by omega)
  · exact g _ _ _ _ _ (setCell_same (g _ _ _ _ _ (g _ _ _ _ _ (g _ _ _ _ _ h3 (by omega)) (by omega)) (by omega))) (by omega)
  · exact setCell_same (g _ _ _ _ _ (g _ _ _ _ _ (g _ _ _ _ _ (g _ _ _ _ _ h4 (by omega)) (by omega)) (by omega)) (by omega))
theorem below_store (w : World) (b B : Nat) (hB : B ≤ b) (v0 v1 v2 v3 v4 : Value) : Below B w (((((w.setCell ⟨b, 0, none⟩ v0).setCell ⟨b, 1, none⟩ v1).setCell ⟨b, 2, none⟩ v2).setCell ⟨b, 3, none⟩ v3).setCell ⟨b, 4, none⟩ v4) :=
  (((((Below.refl B w).setCell hB _).setCell hB _).setCell hB _).setCell hB _).setCell hB _
/-- What a round keeps. -/
def KP (W : World) (B : Nat) (wr : World) (on : Bool) (left : Int) (k f : Int) (word : Bool) (x y r : BitVec 64) : Prop :=
  U wr W.heap.size on left r.toNat ∧ AT wr B k f word x.toNat y.toNat ∧ Below W.heap.size W wr ∧ W.heap.size < B ∧ (on = true → RD f word x y r)
theorem KP.alloc {W : World} {B : Nat} {wr : World} {on : Bool} {left k f : Int} {word : Bool} {x y r : BitVec 64} (h : KP W B wr on left k f word x y r) (o : Obj) : KP W B (wr.alloc o) on left k f word x y r := by
  obtain ⟨h1, h2, h3, h4, h5⟩ := h
  have k := Below.alloc (Below.refl wr.heap.size wr) (Nat.le_refl _) o
  exact ⟨h1.later k h1.2.2.2.2.2, h2.later k h2.2.2.2.2.2.2, h3.trans (k.mono (Nat.le_of_lt h1.2.2.2.2.2)), h4, h5⟩
theorem KP.later {W : World} {B : Nat} {wr w' : World} {on : Bool} {left kd f : Int} {word : Bool} {x y r : BitVec 64} (h : KP W B wr on left kd f word x y r) (k : Below wr.heap.size wr w') : KP W B w' on left kd f word x y r := by
  obtain ⟨h1, h2, h3, h4, h5⟩ := h
  exact ⟨h1.later k h1.2.2.2.2.2, h2.later k h2.2.2.2.2.2.2, h3.trans (k.mono (Nat.le_of_lt h1.2.2.2.2.2)), h4, h5⟩
/-- Behind a call of the unit's that leaves it so. -/
theorem KP.unit {W : World} {B : Nat} {wr w' : World} {on on' : Bool} {left left' kd f : Int} {word : Bool} {x y r r' : BitVec 64} (h : KP W B wr on left kd f word x y r) (hu : U w' W.heap.size on' left' r'.toNat) (k : K wr w' W.heap.size) (hd : on' = true → RD f word x y r') : KP W B w' on' left' kd f word x y r' := by
  obtain ⟨h1, h2, h3, h4, h5⟩ := h
  refine ⟨hu, ?_, h3.trans (k.2 _ (Nat.le_refl _)), h4, hd⟩
  obtain ⟨a0, a1, a2, a3, a4, af, al⟩ := h2
  have ne : some B ≠ some W.heap.size := fun e => by injection e with e; omega
  exact ⟨(grown_cell k.1 _ al ne).trans a0, (grown_cell k.1 _ al ne).trans a1, (grown_cell k.1 _ al ne).trans a2, (grown_cell k.1 _ al ne).trans a3, (grown_cell k.1 _ al ne).trans a4, fun o => (grown_frozen k.1 _ al ne).trans (af o), Nat.lt_of_lt_of_le al k.1.size⟩
theorem KP.put {W : World} {B : Nat} {wr : World} {on : Bool} {left kd f : Int} {word : Bool} {x y r : BitVec 64} (h : KP W B wr on left kd f word x y r) (on0 : on = false) (k2 f2 : Int) (word2 : Bool) (x2 y2 : BitVec 64) :
    KP W B (((((wr.setCell ⟨B, 0, none⟩ (.int .i64 k2)).setCell ⟨B, 1, none⟩ (.int .i64 f2)).setCell ⟨B, 2, none⟩ (.bool word2)).setCell ⟨B, 3, none⟩ (.int .u64 x2.toNat)).setCell ⟨B, 4, none⟩ (.int .u64 y2.toNat)) on left k2 f2 word2 x2 y2 r := by
  obtain ⟨h1, h2, h3, h4, h5⟩ := h
  refine ⟨h1.later (below_store wr B B (Nat.le_refl _) _ _ _ _ _) h4, h2.store _ _ _ _ _, h3.trans (below_store wr B _ (Nat.le_of_lt h4) _ _ _ _ _), h4, fun e => by rw [on0] at e; cases e⟩
theorem KP.drewN {W : World} {B : Nat} {wr : World} {on : Bool} {left kd f : Int} {word : Bool} {x y r : BitVec 64} (h : KP W B wr on left kd f word x y r) (n : Nat) : KP W B (wr.drewN n) on left kd f word x y r := h.later ⟨rfl, rfl, rfl, Nat.le_refl _, fun _ _ => rfl⟩
set_option maxRecDepth 100000 in
theorem steps_walk (W : World) (a : Option Addr) (len cap : Nat) (hlen : len ≤ 9223372036854775807) (hr : RowOf W a len 5 M.l (fun _ => True)) :
    Calls Try.prog 8 #[.slice a len cap] W fun e W' => e = .returned (.bool true) ∧ Below W.heap.size W W' := by
  have NW := hide (new_c W)
  have HR := hide hr
  clear hr
  go_enter Try.func8, Try.ntmps8
  go_wp2_with fail
  refine NW.out.mono ?_
  rintro e w1 ⟨rfl, hu, hb⟩
  have U1 := hide hu
  have B1 := hide hb
  clear hu hb
  simp only []
  go_wp2_with fail
  refine (awake_c _).mono ?_
  rintro e w2 ⟨rfl, hb⟩
  have U2 := hide (U1.out.later hb U1.out.2.2.2.2.2)
  have B2 := hide (B1.out.trans (hb.mono B1.out.size))
  clear hb B1 U1
  simp only []
  go_wp2_with fail
  go_loopg [5, 6, 7, 8, 9, 10, 11, 12, 13] 400 (fun g vl vd vi v8 v9 v10 v11 v12 v13 wr => ∃ (i : Nat) (s : Sta) (k f : Int) (word : Bool) (x y r : BitVec 64), Hid (i + g = 400) ∧ i ≤ len ∧ s.left ≤ 64 ∧ vl = .int .i64 s.left ∧ vd = .bool s.isDone ∧ vi = .int .i64 i ∧ Hid (KP W w2.heap.size wr s.on s.left k f word x y r))
  case atStart =>
    refine ⟨0, .idle, 0, 0, false, 0#64, 0#64, 0#64, by unfold Hid; omega, by omega, by simp [Sta.left], rfl, rfl, rfl, ?_⟩
    have A0 := Below.alloc (Below.refl w2.heap.size w2) (Nat.le_refl _) (.cells #[.int .i64 0, .int .i64 0, .bool false, .int .u64 0, .int .u64 0] 34)
    exact ⟨U2.out.later A0 U2.out.2.2.2.2.2, AT.new w2 0 0 false 0 0 34, B2.out.trans (A0.mono (Nat.le_of_lt U2.out.2.2.2.2.2)), U2.out.2.2.2.2.2, fun e => by cases e⟩
  case round =>
    obtain ⟨i, s, k, f, word, x, y, r, hig, hilen, hs64, rfl, rfl, rfl, hQ⟩ := hrel
    clear U2 B2
    by_cases hlt : i < len
    · by_cases h400 : i < 400
      · obtain ⟨ba, off, m, rfl, hba, -, hc⟩ := HR.out i hlt
        have d400 : decide ((i : Int) < 400) = true := decide_eq_true (by omega)
        have c0 : wr.cell? ⟨ba, off + i * 5, none⟩ = some (.int .i64 m.kind) := (hQ.out.2.2.1.cell hba).trans (hc 0 (by omega))
        have c1 : wr.cell? ⟨ba, off + i * 5 + 1, none⟩ = some (.int .i64 m.f) := (hQ.out.2.2.1.cell hba).trans (hc 1 (by omega))
        have c2 : wr.cell? ⟨ba, off + i * 5 + 2, none⟩ = some (.bool m.word) := (hQ.out.2.2.1.cell hba).trans (hc 2 (by omega))
        have c3 : wr.cell? ⟨ba, off + i * 5 + 3, none⟩ = some (.int .u64 m.x.toNat) := (hQ.out.2.2.1.cell hba).trans (hc 3 (by omega))
        have c4 : wr.cell? ⟨ba, off + i * 5 + 4, none⟩ = some (.int .u64 m.y.toNat) := (hQ.out.2.2.1.cell hba).trans (hc 4 (by omega))
        clear hc
        obtain ⟨mk, mf, mw, mx, my⟩ := m
        simp only [] at c0 c1 c2 c3 c4
        by_cases k1 : mk = 1
        · subst k1
          rcases s with _ | n | _
          · simp only [Sta.left, Sta.isDone, Sta.on] at hQ hs64 ⊢
            have Q0 := hide (show KP W w2.heap.size (wr.alloc (.cells #[.int .i64 1, .int .i64 mf, .bool mw, .int .u64 mx.toNat, .int .u64 my.toNat] 34)) false 0 k f word x y r from hQ.out.alloc _)
            have OW := hide (show AT (wr.alloc (.cells #[.int .i64 1, .int .i64 mf, .bool mw, .int .u64 mx.toNat, .int .u64 my.toNat] 34)) wr.heap.size 1 mf mw mx.toNat my.toNat from AT.new wr _ _ _ _ _ 34)
            by_cases hv : mf < 0 ∨ 7 < mf ∨ mw = true ∧ 0 < mf ∧ mf < 4
            · have SB := hide (steps_bad mf mw mx my hv)
              have SA := hide (fun (wz : World) (h : U wz W.heap.size false 0 r.toNat) => start_arg h mf mw mx.toNat my.toNat hv)
              clear hv
              go_wp2_with fail
              refine (SB.out _).mono ?_
              rintro e w3 ⟨rfl, rfl⟩
              simp only []
              go_wp2_with fail
              refine (SA.out _ Q0.out.1).mono ?_
              rintro e w3 ⟨rfl, rfl⟩
              simp only []
              go_wp2_with fail
              refine (left_c Q0.out.1).mono ?_
              rintro e w9 ⟨rfl, rfl⟩
              simp only []
              go_wp2
              go_roundg (400 - (i + 1))
              case measure => have := hig.out; omega
              case rel => exact ⟨i + 1, .idle, k, f, word, x, y, r, by unfold Hid; have := hig.out; omega, by omega, by simp only [Sta.left]; omega, by go_num, rfl, by go_num, Q0.out⟩
            · have fw : mw = true → mf ≤ 0 ∨ 4 ≤ mf := fun e => by
                by_cases c : 4 ≤ mf
                · exact .inr c
                · left
                  by_cases d : mf ≤ 0
                  · exact d
                  · exact absurd (.inr (.inr ⟨e, by omega, by omega⟩)) hv
              have f0 : 0 ≤ mf := by
                by_cases c : mf < 0
                · exact absurd (.inl c) hv
                · omega
              have f7 : mf ≤ 7 := by
                by_cases c : 7 < mf
                · exact absurd (.inr (.inl c)) hv
                · omega
              clear hv
              obtain ⟨r2, q, N, hR, hRD, hK2, hST, hN, n1, n64⟩ := steps_any mf mw mx my f0 f7 fw
              have SB := hide hST
              have DR := hide hRD
              have SO := hide (fun (wz : World) (h : U wz W.heap.size false 0 r.toNat) => start_ok h mf mw mx my r2 q f0 f7 fw hR hK2 N hN)
              obtain ⟨L, rfl⟩ : ∃ L, N = L + 1 := ⟨N - 1, by omega⟩
              have eL : ((L + 1 : Nat) : Int) = (L : Int) + 1 := by omega
              have dL : ((L : Int) + 1 == 0) = false := beq_eq_false_iff_ne.2 (by omega)
              have dL2 : ¬ ((L : Int) + 1 = 0) := by omega
              clear hR hRD hK2 hST hN f0 f7 fw
              obtain ⟨t0, t1, t2, t3, t4, tf, tl⟩ := Q0.out.2.1
              have hlt' : w2.heap.size < wr.heap.size := hQ.out.2.1.2.2.2.2.2.2
              have hne1 : ¬ (w2.heap.size = wr.heap.size) := by omega
              have hne2 : ¬ (wr.heap.size = w2.heap.size) := by omega
              clear hlt'
              have Q1 := hide (Q0.out.put rfl 1 mf mw mx my)
              go_wp2_with fail
              refine (SB.out _).mono ?_
              rintro e w3 ⟨rfl, rfl⟩
              simp only []
              go_wp2_with fail
              refine (SO.out _ Q1.out.1).mono ?_
              rintro e w3 ⟨rfl, hu, hk⟩
              have Q2 := hide (Q1.out.unit (on' := true) hu hk (fun _ => DR.out))
              clear hu hk t0 t1 t2 t3 t4 tf tl
              simp only []
              go_wp2_with fail
              refine (left_c Q2.out.1).mono ?_
              rintro e w9 ⟨rfl, rfl⟩
              simp only []
              go_wp2
              go_roundg (400 - (i + 1))
              case measure => have := hig.out; omega
              case rel => exact ⟨i + 1, (.busy L), 1, mf, mw, mx, my, r2, by unfold Hid; have := hig.out; omega, by omega, by simp only [Sta.left]; omega, by go_num, rfl, by go_num, Q2.out⟩
          · simp only [Sta.left, Sta.isDone, Sta.on] at hQ hs64 ⊢
            have en : ((n + 1 : Nat) : Int) = (n : Int) + 1 := by omega
            have dn : decide (0 < (n : Int) + 1) = true := decide_eq_true (by omega)
            have Q0 := hide (show KP W w2.heap.size (wr.alloc (.cells #[.int .i64 1, .int .i64 mf, .bool mw, .int .u64 mx.toNat, .int .u64 my.toNat] 34)) true ((n + 1 : Nat) : Int) k f word x y r from hQ.out.alloc _)
            have OW := hide (show AT (wr.alloc (.cells #[.int .i64 1, .int .i64 mf, .bool mw, .int .u64 mx.toNat, .int .u64 my.toNat] 34)) wr.heap.size 1 mf mw mx.toNat my.toNat from AT.new wr _ _ _ _ _ 34)
            by_cases hv : mf < 0 ∨ 7 < mf ∨ mw = true ∧ 0 < mf ∧ mf < 4
            · have SB := hide (steps_bad mf mw mx my hv)
              clear hv
              go_wp2_with fail
              refine (SB.out _).mono ?_
              rintro e w3 ⟨rfl, rfl⟩
              simp only []
              go_wp2_with fail
              refine (start_busy Q0.out.1 mf mw mx.toNat my.toNat).mono ?_
              rintro e w3 ⟨rfl, rfl⟩
              simp only []
              go_wp2_with fail
              refine (left_c Q0.out.1).mono ?_
              rintro e w9 ⟨rfl, rfl⟩
              simp only []
              go_wp2
              go_roundg (400 - (i + 1))
              case measure => have := hig.out; omega
              case rel => exact ⟨i + 1, (.busy n), k, f, word, x, y, r, by unfold Hid; have := hig.out; omega, by omega, by simp only [Sta.left]; omega, by go_num, rfl, by go_num, Q0.out⟩
            · have fw : mw = true → mf ≤ 0 ∨ 4 ≤ mf := fun e => by
                by_cases c : 4 ≤ mf
                · exact .inr c
                · left
                  by_cases d : mf ≤ 0
                  · exact d
                  · exact absurd (.inr (.inr ⟨e, by omega, by omega⟩)) hv
              have f0 : 0 ≤ mf := by
                by_cases c : mf < 0
                · exact absurd (.inl c) hv
                · omega
              have f7 : mf ≤ 7 := by
                by_cases c : 7 < mf
                · exact absurd (.inr (.inl c)) hv
                · omega
              clear hv
              obtain ⟨r2, q, N, hR, hRD, hK2, hST, hN, n1, n64⟩ := steps_any mf mw mx my f0 f7 fw
              have SB := hide hST
              have DR := hide hRD
              clear hR hRD hK2 hST hN f0 f7 fw
              obtain ⟨L, rfl⟩ : ∃ L, N = L + 1 := ⟨N - 1, by omega⟩
              go_wp2_with fail
              refine (SB.out _).mono ?_
              rintro e w3 ⟨rfl, rfl⟩
              simp only []
              go_wp2_with fail
              refine (start_busy Q0.out.1 mf mw mx.toNat my.toNat).mono ?_
              rintro e w3 ⟨rfl, rfl⟩
              simp only []
              go_wp2_with fail
              refine (left_c Q0.out.1).mono ?_
              rintro e w9 ⟨rfl, rfl⟩
              simp only []
              go_wp2
              go_roundg (400 - (i + 1))
              case measure => have := hig.out; omega
              case rel => exact ⟨i + 1, (.busy n), k, f, word, x, y, r, by unfold Hid; have := hig.out; omega, by omega, by simp only [Sta.left]; omega, by go_num, rfl, by go_num, Q0.out⟩
          · simp only [Sta.left, Sta.isDone, Sta.on] at hQ hs64 ⊢
            have Q0 := hide (show KP W w2.heap.size (wr.alloc (.cells #[.int .i64 1, .int .i64 mf, .bool mw, .int .u64 mx.toNat, .int .u64 my.toNat] 34)) true 0 k f word x y r from hQ.out.alloc _)
            have OW := hide (show AT (wr.alloc (.cells #[.int .i64 1, .int .i64 mf, .bool mw, .int .u64 mx.toNat, .int .u64 my.toNat] 34)) wr.heap.size 1 mf mw mx.toNat my.toNat from AT.new wr _ _ _ _ _ 34)
            by_cases hv : mf < 0 ∨ 7 < mf ∨ mw = true ∧ 0 < mf ∧ mf < 4
            · have SB := hide (steps_bad mf mw mx my hv)
              clear hv
              go_wp2_with fail
              refine (SB.out _).mono ?_
              rintro e w3 ⟨rfl, rfl⟩
              simp only []
              go_wp2_with fail
              refine (start_busy Q0.out.1 mf mw mx.toNat my.toNat).mono ?_
              rintro e w3 ⟨rfl, rfl⟩
              simp only []
              go_wp2_with fail
              refine (left_c Q0.out.1).mono ?_
              rintro e w9 ⟨rfl, rfl⟩
              simp only []
              go_wp2
              go_roundg (400 - (i + 1))
              case measure => have := hig.out; omega
              case rel => exact ⟨i + 1, .done, k, f, word, x, y, r, by unfold Hid; have := hig.out; omega, by omega, by simp only [Sta.left]; omega, by go_num, rfl, by go_num, Q0.out⟩
            · have fw : mw = true → mf ≤ 0 ∨ 4 ≤ mf := fun e => by
                by_cases c : 4 ≤ mf
                · exact .inr c
                · left
                  by_cases d : mf ≤ 0
                  · exact d
                  · exact absurd (.inr (.inr ⟨e, by omega, by omega⟩)) hv
              have f0 : 0 ≤ mf := by
                by_cases c : mf < 0
                · exact absurd (.inl c) hv
                · omega
              have f7 : mf ≤ 7 := by
                by_cases c : 7 < mf
                · exact absurd (.inr (.inl c)) hv
                · omega
              clear hv
              obtain ⟨r2, q, N, hR, hRD, hK2, hST, hN, n1, n64⟩ := steps_any mf mw mx my f0 f7 fw
              have SB := hide hST
              have DR := hide hRD
              clear hR hRD hK2 hST hN f0 f7 fw
              obtain ⟨L, rfl⟩ : ∃ L, N = L + 1 := ⟨N - 1, by omega⟩
              go_wp2_with fail
              refine (SB.out _).mono ?_
              rintro e w3 ⟨rfl, rfl⟩
              simp only []
              go_wp2_with fail
              refine (start_busy Q0.out.1 mf mw mx.toNat my.toNat).mono ?_
              rintro e w3 ⟨rfl, rfl⟩
              simp only []
              go_wp2_with fail
              refine (left_c Q0.out.1).mono ?_
              rintro e w9 ⟨rfl, rfl⟩
              simp only []
              go_wp2
              go_roundg (400 - (i + 1))
              case measure => have := hig.out; omega
              case rel => exact ⟨i + 1, .done, k, f, word, x, y, r, by unfold Hid; have := hig.out; omega, by omega, by simp only [Sta.left]; omega, by go_num, rfl, by go_num, Q0.out⟩
        by_cases k2 : mk = 2
        · subst k2
          rcases s with _ | n | _
          · simp only [Sta.left, Sta.isDone, Sta.on] at hQ hs64 ⊢
            have Q0 := hide (show KP W w2.heap.size (wr.alloc (.cells #[.int .i64 2, .int .i64 mf, .bool mw, .int .u64 mx.toNat, .int .u64 my.toNat] 34)) false 0 k f word x y r from hQ.out.alloc _)
            have OW := hide (show AT (wr.alloc (.cells #[.int .i64 2, .int .i64 mf, .bool mw, .int .u64 mx.toNat, .int .u64 my.toNat] 34)) wr.heap.size 2 mf mw mx.toNat my.toNat from AT.new wr _ _ _ _ _ 34)
            go_wp2_with fail
            refine (take_not Q0.out.1 (.inl rfl)).mono ?_
            rintro e w3 ⟨rfl, rfl⟩
            simp only []
            go_wp2_with fail
            refine (left_c Q0.out.1).mono ?_
            rintro e w9 ⟨rfl, rfl⟩
            simp only []
            go_wp2
            go_roundg (400 - (i + 1))
            case measure => have := hig.out; omega
            case rel => exact ⟨i + 1, .idle, k, f, word, x, y, r, by unfold Hid; have := hig.out; omega, by omega, by simp only [Sta.left]; omega, by go_num, rfl, by go_num, Q0.out⟩
          · simp only [Sta.left, Sta.isDone, Sta.on] at hQ hs64 ⊢
            have en : ((n + 1 : Nat) : Int) = (n : Int) + 1 := by omega
            have dn : decide (0 < (n : Int) + 1) = true := decide_eq_true (by omega)
            have Q0 := hide (show KP W w2.heap.size (wr.alloc (.cells #[.int .i64 2, .int .i64 mf, .bool mw, .int .u64 mx.toNat, .int .u64 my.toNat] 34)) true ((n + 1 : Nat) : Int) k f word x y r from hQ.out.alloc _)
            have OW := hide (show AT (wr.alloc (.cells #[.int .i64 2, .int .i64 mf, .bool mw, .int .u64 mx.toNat, .int .u64 my.toNat] 34)) wr.heap.size 2 mf mw mx.toNat my.toNat from AT.new wr _ _ _ _ _ 34)
            go_wp2_with fail
            refine (take_not Q0.out.1 (.inr ⟨rfl, by omega⟩)).mono ?_
            rintro e w3 ⟨rfl, rfl⟩
            simp only []
            go_wp2_with fail
            refine (left_c Q0.out.1).mono ?_
            rintro e w9 ⟨rfl, rfl⟩
            simp only []
            go_wp2
            go_roundg (400 - (i + 1))
            case measure => have := hig.out; omega
            case rel => exact ⟨i + 1, (.busy n), k, f, word, x, y, r, by unfold Hid; have := hig.out; omega, by omega, by simp only [Sta.left]; omega, by go_num, rfl, by go_num, Q0.out⟩
          · simp only [Sta.left, Sta.isDone, Sta.on] at hQ hs64 ⊢
            have Q0 := hide (show KP W w2.heap.size (wr.alloc (.cells #[.int .i64 2, .int .i64 mf, .bool mw, .int .u64 mx.toNat, .int .u64 my.toNat] 34)) true 0 k f word x y r from hQ.out.alloc _)
            have OW := hide (show AT (wr.alloc (.cells #[.int .i64 2, .int .i64 mf, .bool mw, .int .u64 mx.toNat, .int .u64 my.toNat] 34)) wr.heap.size 2 mf mw mx.toNat my.toNat from AT.new wr _ _ _ _ _ 34)
            go_wp2_with fail
            refine (take_done Q0.out.1).mono ?_
            rintro e w3 ⟨rfl, hu, hk⟩
            have RR := hide (hQ.out.2.2.2.2 rfl)
            have Q1 := hide (Q0.out.unit (on' := false) hu hk (fun e => by cases e))
            clear hu hk
            obtain ⟨t0, t1, t2, t3, t4, tf, tl⟩ := Q1.out.2.1
            simp only []
            go_wp2_with fail
            refine (RR.out _).mono ?_
            rintro e w3 ⟨rfl, hb⟩
            have Q2 := hide (Q1.out.later hb)
            clear hb t0 t1 t2 t3 t4 tf tl
            simp only []
            go_wp2_with fail
            refine (left_c Q2.out.1).mono ?_
            rintro e w9 ⟨rfl, rfl⟩
            simp only []
            go_wp2
            go_roundg (400 - (i + 1))
            case measure => have := hig.out; omega
            case rel => exact ⟨i + 1, .idle, k, f, word, x, y, r, by unfold Hid; have := hig.out; omega, by omega, by simp only [Sta.left]; omega, by go_num, rfl, by go_num, Q2.out⟩
        by_cases k3 : mk = 3
        · subst k3
          rcases s with _ | n | _
          · simp only [Sta.left, Sta.isDone, Sta.on] at hQ hs64 ⊢
            have Q0 := hide (show KP W w2.heap.size (wr.alloc (.cells #[.int .i64 3, .int .i64 mf, .bool mw, .int .u64 mx.toNat, .int .u64 my.toNat] 34)) false 0 k f word x y r from hQ.out.alloc _)
            have OW := hide (show AT (wr.alloc (.cells #[.int .i64 3, .int .i64 mf, .bool mw, .int .u64 mx.toNat, .int .u64 my.toNat] 34)) wr.heap.size 3 mf mw mx.toNat my.toNat from AT.new wr _ _ _ _ _ 34)
            go_wp2_with fail
            refine (drop_no Q0.out.1).mono ?_
            rintro e w3 ⟨rfl, rfl⟩
            simp only []
            go_wp2_with fail
            refine (left_c Q0.out.1).mono ?_
            rintro e w9 ⟨rfl, rfl⟩
            simp only []
            go_wp2
            go_roundg (400 - (i + 1))
            case measure => have := hig.out; omega
            case rel => exact ⟨i + 1, .idle, k, f, word, x, y, r, by unfold Hid; have := hig.out; omega, by omega, by simp only [Sta.left]; omega, by go_num, rfl, by go_num, Q0.out⟩
          · simp only [Sta.left, Sta.isDone, Sta.on] at hQ hs64 ⊢
            have en : ((n + 1 : Nat) : Int) = (n : Int) + 1 := by omega
            have dn : decide (0 < (n : Int) + 1) = true := decide_eq_true (by omega)
            have Q0 := hide (show KP W w2.heap.size (wr.alloc (.cells #[.int .i64 3, .int .i64 mf, .bool mw, .int .u64 mx.toNat, .int .u64 my.toNat] 34)) true ((n + 1 : Nat) : Int) k f word x y r from hQ.out.alloc _)
            have OW := hide (show AT (wr.alloc (.cells #[.int .i64 3, .int .i64 mf, .bool mw, .int .u64 mx.toNat, .int .u64 my.toNat] 34)) wr.heap.size 3 mf mw mx.toNat my.toNat from AT.new wr _ _ _ _ _ 34)
            go_wp2_with fail
            refine (drop_yes Q0.out.1).mono ?_
            rintro e w3 ⟨rfl, hu, hk⟩
            have Q1 := hide (Q0.out.unit (on' := false) hu hk (fun e => by cases e))
            clear hu hk
            simp only []
            go_wp2_with fail
            refine (left_c Q1.out.1).mono ?_
            rintro e w9 ⟨rfl, rfl⟩
            simp only []
            go_wp2
            go_roundg (400 - (i + 1))
            case measure => have := hig.out; omega
            case rel => exact ⟨i + 1, .idle, k, f, word, x, y, r, by unfold Hid; have := hig.out; omega, by omega, by simp only [Sta.left]; omega, by go_num, rfl, by go_num, Q1.out⟩
          · simp only [Sta.left, Sta.isDone, Sta.on] at hQ hs64 ⊢
            have Q0 := hide (show KP W w2.heap.size (wr.alloc (.cells #[.int .i64 3, .int .i64 mf, .bool mw, .int .u64 mx.toNat, .int .u64 my.toNat] 34)) true 0 k f word x y r from hQ.out.alloc _)
            have OW := hide (show AT (wr.alloc (.cells #[.int .i64 3, .int .i64 mf, .bool mw, .int .u64 mx.toNat, .int .u64 my.toNat] 34)) wr.heap.size 3 mf mw mx.toNat my.toNat from AT.new wr _ _ _ _ _ 34)
            go_wp2_with fail
            refine (drop_yes Q0.out.1).mono ?_
            rintro e w3 ⟨rfl, hu, hk⟩
            have Q1 := hide (Q0.out.unit (on' := false) hu hk (fun e => by cases e))
            clear hu hk
            simp only []
            go_wp2_with fail
            refine (left_c Q1.out.1).mono ?_
            rintro e w9 ⟨rfl, rfl⟩
            simp only []
            go_wp2
            go_roundg (400 - (i + 1))
            case measure => have := hig.out; omega
            case rel => exact ⟨i + 1, .idle, k, f, word, x, y, r, by unfold Hid; have := hig.out; omega, by omega, by simp only [Sta.left]; omega, by go_num, rfl, by go_num, Q1.out⟩
        have e1 : (mk == 1) = false := beq_eq_false_iff_ne.2 k1
        have e2 : (mk == 2) = false := beq_eq_false_iff_ne.2 k2
        have e3 : (mk == 3) = false := beq_eq_false_iff_ne.2 k3
        rcases s with _ | n | _
        · simp only [Sta.left, Sta.isDone, Sta.on] at hQ hs64 ⊢
          have Q0 := hide (show KP W w2.heap.size (wr.alloc (.cells #[.int .i64 mk, .int .i64 mf, .bool mw, .int .u64 mx.toNat, .int .u64 my.toNat] 34)) false 0 k f word x y r from hQ.out.alloc _)
          have OW := hide (show AT (wr.alloc (.cells #[.int .i64 mk, .int .i64 mf, .bool mw, .int .u64 mx.toNat, .int .u64 my.toNat] 34)) wr.heap.size mk mf mw mx.toNat my.toNat from AT.new wr _ _ _ _ _ 34)
          go_wp2_with fail
          refine (step_zero Q0.out.1).mono ?_
          rintro e w3 ⟨rfl, rfl⟩
          simp only []
          go_wp2_with fail
          refine (left_c Q0.out.1).mono ?_
          rintro e w9 ⟨rfl, rfl⟩
          simp only []
          go_wp2
          go_roundg (400 - (i + 1))
          case measure => have := hig.out; omega
          case rel => exact ⟨i + 1, .idle, k, f, word, x, y, r, by unfold Hid; have := hig.out; omega, by omega, by simp only [Sta.left]; omega, by go_num, rfl, by go_num, Q0.out⟩
        · simp only [Sta.left, Sta.isDone, Sta.on] at hQ hs64 ⊢
          have en : ((n + 1 : Nat) : Int) = (n : Int) + 1 := by omega
          have dn : decide (0 < (n : Int) + 1) = true := decide_eq_true (by omega)
          have Q0 := hide (show KP W w2.heap.size (wr.alloc (.cells #[.int .i64 mk, .int .i64 mf, .bool mw, .int .u64 mx.toNat, .int .u64 my.toNat] 34)) true ((n + 1 : Nat) : Int) k f word x y r from hQ.out.alloc _)
          have OW := hide (show AT (wr.alloc (.cells #[.int .i64 mk, .int .i64 mf, .bool mw, .int .u64 mx.toNat, .int .u64 my.toNat] 34)) wr.heap.size mk mf mw mx.toNat my.toNat from AT.new wr _ _ _ _ _ 34)
          have P1 := hide (step_more Q0.out.1 (by omega))
          have RR := hide (hQ.out.2.2.2.2 rfl)
          rcases n with _ | m
          · have w1e : wrap64 (1 - 1) = 0 := by unfold wrap64; omega
            go_wp2_with fail
            refine (P1.out).mono ?_
            rintro e w3 ⟨rfl, hu, hk⟩
            have Q1 := hide (show KP W w2.heap.size w3 true (0 : Int) k f word x y r from Q0.out.unit (on' := true) hu hk (fun _ => RR.out))
            clear hu hk P1
            simp only []
            go_wp2_with fail
            refine (left_c Q1.out.1).mono ?_
            rintro e w9 ⟨rfl, rfl⟩
            simp only []
            go_wp2
            go_roundg (400 - (i + 1))
            case measure => have := hig.out; omega
            case rel => exact ⟨i + 1, .done, k, f, word, x, y, r, by unfold Hid; have := hig.out; omega, by omega, by simp only [Sta.left]; omega, by go_num, rfl, by go_num, Q1.out⟩
          · have wm : wrap64 ((m : Int) + 1 + 1 - 1) = (m : Int) + 1 := by unfold wrap64; omega
            have em : ((m + 1 : Nat) : Int) = (m : Int) + 1 := by omega
            have dm3 : decide (0 < (m : Int) + 1 + 1) = true := decide_eq_true (by omega)
            have dm : ((m : Int) + 1 == 0) = false := beq_eq_false_iff_ne.2 (by omega)
            have dm2 : ¬ ((m : Int) + 1 = 0) := by omega
            go_wp2_with fail
            refine (P1.out).mono ?_
            rintro e w3 ⟨rfl, hu, hk⟩
            have Q1 := hide (Q0.out.unit (on' := true) hu hk (fun _ => RR.out))
            clear hu hk P1
            simp only []
            go_wp2_with fail
            refine (left_c Q1.out.1).mono ?_
            rintro e w9 ⟨rfl, rfl⟩
            simp only []
            go_wp2
            go_roundg (400 - (i + 1))
            case measure => have := hig.out; omega
            case rel => exact ⟨i + 1, (.busy m), k, f, word, x, y, r, by unfold Hid; have := hig.out; omega, by omega, by simp only [Sta.left]; omega, by go_num, rfl, by go_num, Q1.out⟩
        · simp only [Sta.left, Sta.isDone, Sta.on] at hQ hs64 ⊢
          have Q0 := hide (show KP W w2.heap.size (wr.alloc (.cells #[.int .i64 mk, .int .i64 mf, .bool mw, .int .u64 mx.toNat, .int .u64 my.toNat] 34)) true 0 k f word x y r from hQ.out.alloc _)
          have OW := hide (show AT (wr.alloc (.cells #[.int .i64 mk, .int .i64 mf, .bool mw, .int .u64 mx.toNat, .int .u64 my.toNat] 34)) wr.heap.size mk mf mw mx.toNat my.toNat from AT.new wr _ _ _ _ _ 34)
          go_wp2_with fail
          refine (step_zero Q0.out.1).mono ?_
          rintro e w3 ⟨rfl, rfl⟩
          simp only []
          go_wp2_with fail
          refine (left_c Q0.out.1).mono ?_
          rintro e w9 ⟨rfl, rfl⟩
          simp only []
          go_wp2
          go_roundg (400 - (i + 1))
          case measure => have := hig.out; omega
          case rel => exact ⟨i + 1, .done, k, f, word, x, y, r, by unfold Hid; have := hig.out; omega, by omega, by simp only [Sta.left]; omega, by go_num, rfl, by go_num, Q0.out⟩
      · have d400 : decide ((i : Int) < 400) = false := decide_eq_false (by omega)
        have B := hide hQ.out.2.2.1
        clear hQ
        go_wp2_with fail
        go_ret
        exact ⟨rfl, B.out⟩
    · have B := hide hQ.out.2.2.1
      clear hQ
      go_wp2_with fail
      go_ret
      exact ⟨rfl, B.out⟩
theorem steps_w (W : World) (a : Option Addr) (len cap : Nat) (hlen : len ≤ 9223372036854775807) (hr : RowOf W a len 5 M.l (fun _ => True)) :
    Calls Try.prog 8 #[.slice a len cap] W fun e W' => e = .returned (.bool true) ∧ Below W.heap.size W W' := steps_walk W a len cap hlen hr
end Go.Proofs.Ytngegkonijljnaa

