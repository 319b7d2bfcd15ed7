/- The document's predictor: Learn, by a contract over its state. -/
import Derived.Test.YtkjgklpdoomjcaaPredRN
import Derived.Deep.DeepCutAuto
import Derived.Deep.RegionWith
import Derived.Deep.RegionHeld3
namespace Go.Proofs.Ytkjgklpdoomjcaa
open Go.RowKit
set_option linter.unusedVariables false
set_option linter.unusedSimpArgs false

theorem info29' : (Try.prog.info? 29).map (fun i => (i.zero, i.size, i.bytes)) = some (some (.int .u64 0), 1, 8) := by kernel_rfl

theorem renc_learn (p : P) (sv : Value) (k : Nat) (hk : k < 64) (c h : Nat) (o : Nat) : upd (upd (p.renc sv) (96 + k) (.int .i64 c)) 160 (.int .i64 h) o = ({ p with ct := fun i => if i = k then c else p.ct i, hist := h } : P).renc sv o := by
  unfold upd P.renc
  simp only []
  by_cases e : o = 160
  · subst e
    rw [if_pos rfl, if_neg (by omega), if_neg (by omega), if_pos rfl]
  · rw [if_neg e]
    by_cases e' : o = 96 + k
    · subst e'
      rw [if_pos rfl, if_neg (by omega), if_pos (by omega), if_pos (by omega)]
    · rw [if_neg e']
      by_cases h1 : o < 96
      · rw [if_pos h1, if_pos h1]
      · rw [if_neg h1, if_neg h1]
        by_cases h2 : o < 160
        · rw [if_pos h2, if_pos h2, if_neg (by omega)]
        · rw [if_neg h2, if_neg h2, if_neg e, if_neg e]
theorem renc_aim (p : P) (sv : Value) (i : Nat) (hi : i < 16) (j : J) (o : Nat) :
    upd (upd (upd (upd (upd (upd (p.renc sv) (i * 6) (.bool true)) (i * 6 + 1) (.int .u64 j.pc)) (i * 6 + 2) (.int .u64 j.target)) (i * 6 + 3) (.bool j.call)) (i * 6 + 4) (.bool j.ret)) (i * 6 + 5) (.bool j.cond) o =
      ({ p with tg := fun k => if k = i then ⟨true, j⟩ else p.tg k } : P).renc sv o := by
  unfold upd P.renc
  simp only []
  by_cases h1 : o < 96
  · rw [if_pos h1, if_pos h1]
    by_cases h : o / 6 = i
    · rw [if_pos h]
      rcases (by omega : o % 6 = 0 ∨ o % 6 = 1 ∨ o % 6 = 2 ∨ o % 6 = 3 ∨ o % 6 = 4 ∨ o % 6 = 5) with e | e | e | e | e | e
      · rw [if_neg (by omega), if_neg (by omega), if_neg (by omega), if_neg (by omega), if_neg (by omega), if_pos (by omega), e]; rfl
      · rw [if_neg (by omega), if_neg (by omega), if_neg (by omega), if_neg (by omega), if_pos (by omega), e]; rfl
      · rw [if_neg (by omega), if_neg (by omega), if_neg (by omega), if_pos (by omega), e]; rfl
      · rw [if_neg (by omega), if_neg (by omega), if_pos (by omega), e]; rfl
      · rw [if_neg (by omega), if_pos (by omega), e]; rfl
      · rw [if_pos (by omega), e]; rfl
    · rw [if_neg (by omega), if_neg (by omega), if_neg (by omega), if_neg (by omega), if_neg (by omega), if_neg (by omega), if_neg h]
  · rw [if_neg (by omega), if_neg (by omega), if_neg (by omega), if_neg (by omega), if_neg (by omega), if_neg (by omega), if_neg h1, if_neg h1]
theorem renc_stack (p q : P) (sv sv' : Value) (h1 : q.tg = p.tg) (h2 : q.ct = p.ct) (h3 : q.hist = p.hist) (o : Nat) (ho : o < 162) : upd (p.renc sv) 161 sv' o = q.renc sv' o := by
  unfold upd P.renc
  rw [h1, h2, h3]
  by_cases e : o = 161
  · subst e; simp
  · rw [if_neg e]
    by_cases h1 : o < 96
    · rw [if_pos h1, if_pos h1]
    · rw [if_neg h1, if_neg h1]
      by_cases h2 : o < 160
      · rw [if_pos h2, if_pos h2]
      · rw [if_neg h2, if_neg h2, if_pos (by omega), if_pos (by omega)]

section
variable {w w' : World} {b cap : Nat} {a : Option Addr} {p : P}
theorem RAt.put_sl (h : RAt w b a cap p) (o : Nat) (v : Value) : SL (w.setCell ⟨b, o, none⟩ v) 0 1 a p.n cap p.sc := h.sl.far (only_setCell (World.grownBy.refl _ _) (.inl rfl) v) h.ap
theorem RAt.learnI (h : RAt w b a cap p) (k : Nat) (hk : k < 64) (c hh : Nat) (x y : Int) (hx : x = c) (hy : y = hh) (hc : c ≤ 3) (h6 : hh < 64) :
    RAt ((w.setCell ⟨b, 96 + k, none⟩ (.int .i64 x)).setCell ⟨b, 160, none⟩ (.int .i64 y)) b a cap { p with ct := fun i => if i = k then c else p.ct i, hist := hh } := by
  subst hx hy
  refine ⟨((h.cells.set _ _).set _ _).congr fun o _ => renc_learn p _ k hk c hh o, h6, h.n, fun i => ?_, ?_, h.ap⟩
  · show (if i = k then c else p.ct i) ≤ 3
    split
    · exact hc
    · exact h.ct i
  · exact (h.put_sl _ _).far (only_setCell (World.grownBy.refl _ _) (.inl rfl) _) h.ap
theorem RAt.setA (h : RAt w b a cap p) (i : Nat) (hi : i < 16) (j : J) :
    RAt ((((((w.setCell ⟨b, i * 6, none⟩ (.bool true)).setCell ⟨b, i * 6 + 1, none⟩ (.int .u64 j.pc)).setCell ⟨b, i * 6 + 2, none⟩ (.int .u64 j.target)).setCell ⟨b, i * 6 + 3, none⟩ (.bool j.call)).setCell ⟨b, i * 6 + 4, none⟩ (.bool j.ret)).setCell ⟨b, i * 6 + 5, none⟩ (.bool j.cond)) b a cap { p with tg := fun k => if k = i then ⟨true, j⟩ else p.tg k } := by
  refine ⟨((((((h.cells.set _ _).set _ _).set _ _).set _ _).set _ _).set _ _).congr fun o _ => renc_aim p _ i hi j o, h.hist, h.n, h.ct, ?_, h.ap⟩
  refine h.sl.far (r := b) ?_ h.ap
  repeat (first | (with_reducible exact World.grownBy.refl _ _) | (with_reducible refine only_setCell ?_ (.inl rfl) _))
theorem RAt.setS (h : RAt w b a cap p) {a' : Option Addr} {cap' : Nat} (q : P) (h1 : q.tg = p.tg) (h2 : q.ct = p.ct) (h3 : q.hist = p.hist) (hn : q.n ≤ 4) (hs : SL w 0 1 a' q.n cap' q.sc) (ha : Apart a' b) : RAt (w.setCell ⟨b, 161, none⟩ (.slice a' q.n cap')) b a' cap' q :=
  ⟨(h.cells.set _ _).congr fun o ho => renc_stack p q _ _ h1 h2 h3 o ho, by rw [h3]; exact h.hist, hn, by rw [h2]; exact h.ct, hs.far (only_setCell (World.grownBy.refl _ _) (.inl rfl) _) ha, ha⟩
theorem RAt.setT (h : RAt w b a cap p) {a' : Option Addr} {cap' n' : Nat} (q : P) (h1 : q.tg = p.tg) (h2 : q.ct = p.ct) (h3 : q.hist = p.hist) (hq : q.n = n') (hn : n' ≤ 4) (hs : SL w 0 1 a' n' cap' q.sc) (ha : Apart a' b) : RAt (w.setCell ⟨b, 161, none⟩ (.slice a' n' cap')) b a' cap' q := by
  subst hq
  exact h.setS q h1 h2 h3 hn hs ha
end
theorem sc_take (p : P) (k : Nat) (hk : k ≤ p.n) : (p.sc).take (k * 1) = ({ p with n := k } : P).sc := by
  unfold P.sc
  simp only [Nat.mul_one]
  rw [← List.map_take, List.take_range, Nat.min_eq_left hk]
theorem sc_push (p : P) (x : Int) (hn : p.n < 4) : p.sc ++ [Value.int .u64 x] = (p.pushed x).sc := by
  unfold P.sc P.pushed
  simp only [if_pos hn]
  rw [List.range_succ, List.map_append, List.map_singleton, if_pos rfl]
  congr 1
  refine List.map_congr_left fun i hi => ?_
  have := List.mem_range.1 hi
  rw [if_neg (by omega)]
theorem sc_full (p : P) (x : Int) (hn : p.n = 4) : (p.sc ++ [Value.int .u64 x]).drop (1 * 1) = (p.pushed x).sc := by
  have h4 : ¬ p.n < 4 := by omega
  have e : List.range 4 = [0, 1, 2, 3] := rfl
  have hn2 : (p.pushed x).n = 4 := by unfold P.pushed; simp only [if_neg h4]
  unfold P.sc
  rw [hn2, hn, e]
  unfold P.pushed
  simp only [if_neg h4]
  rfl
theorem sc_one (p : P) : ∀ u ∈ p.sc, u.oneCell' = true := fun u hu => by
  unfold P.sc at hu
  obtain ⟨i, _, rfl⟩ := List.mem_map.1 hu
  rfl
theorem word_src (x : Int) (w : World) (g : Nat) (T : TypeId) (h : w.cell? ⟨g, 0, none⟩ = some (.int .u64 x)) : Src Try.prog 1 38 (.slice (some ⟨g, 0, none⟩) 1 1) 1 [.int .u64 x] w :=
  Src.ofSlice _ Try.underlying38 ⟨g, 0, none⟩ 1 1 _ rfl (fun j u hu => by
    rw [addr_add, Nat.zero_add]
    match j, hu with
    | 0, hu => simp at hu; subst hu; exact h) (fun u hu => by
    simp only [List.mem_cons, List.not_mem_nil, or_false] at hu
    subst hu; rfl)

theorem RAt.shorter {w : World} {b cap : Nat} {a : Option Addr} {p : P} (h : RAt w b a cap p) (k : Nat) (hk : k ≤ p.n) : SL w 0 1 a k cap ({ p with n := k } : P).sc := by
  have h := h.sl.short (k := k) hk
  rwa [sc_take p _ hk] at h
/-- A copy of a slice: appended to nil. -/
theorem step_append_nil {ops : Array Oper} {o : Oper} {ac : Act} {K : Act → World → Prop} {Q : Exit → Act → World → Prop} {E : Prop} (w : World) (hgd : o.guard = none) (s xo : Operand) (t : TypeId)
    (ho : o.op = .call { callee := .builtin .append, args := #[s, xo], argTypes := #[t, t] })
    (base : Nat) (e : TypeId) (i : TypeInfo) (z : Value) (size bytes : Nat) (ht : Try.prog.underlying t = some (.slice e)) (hi : Try.prog.info? e = some i) (hz : i.zero = some z) (hsize : i.size = size) (hby : i.bytes = bytes) (hzs : z.cells.size = size)
    (hv : ac.eval s = .slice none 0 0) (x : Value) (m : Nat) (news : List Value) (hx : ac.eval xo = x) (hs : Src Try.prog size t x m news w)
    (h63 : m ≤ maxLen) (hbytes : m * bytes ≤ 140737488355328) (hbase : base ≤ w.heap.size)
    (hK : ∀ a' cap' w', SL w' base size a' m cap' news → w.grownBy w' none → K (ac.put o.dst (.slice a' m cap')) w') :
    if Region.wanted o (yielded ops ac.tmps) = true then Oper.wp Try.prog o ac w K Q else E :=
  step_append_all w hgd s xo t ho base e i z size bytes ht hi hz hsize hby hzs none 0 0 [] hv SL.nil x m news hx hs (by omega) (by rw [Nat.zero_add]; exact hbytes) hbase fun a' cap' w' h1 h2 _ => by
    rw [Nat.zero_add] at h1 ⊢
    exact hK a' cap' w' (by simpa using h1) h2
/-- In the middle of Learn. -/
structure RM (b : Nat) (w : World) (j : J) (a0 : Option Addr) (p : P) (wc : World) : Prop where
  only : w.grownBy wc (some b)
  st : ∃ a cap, RAt wc b a cap p ∧ After w a0 a
  box : CellsAt wc w.heap.size 6 j.c
theorem RM.step {b : Nat} {w : World} {j : J} {a0 : Option Addr} {p q : P} {w0 w1 : World} (M : RM b w j a0 p w0) (hlt : b < w.heap.size) (g : w0.grownBy w1 (some b)) {a : Option Addr} {cap : Nat} (h : RAt w1 b a cap q) (af : After w a0 a) : RM b w j a0 q w1 :=
  ⟨only_trans M.only g, ⟨a, cap, h, af⟩, M.box.grown g (fun e => by injection e with e; omega)⟩
/-- What Learn leaves. -/
def RL (b : Nat) (w : World) (a0 : Option Addr) (q : P) (e : Ending) (w' : World) : Prop := e = .returned (.tuple #[]) ∧ w.grownBy w' (some b) ∧ ∃ a cap, RAt w' b a cap q ∧ After w a0 a
theorem hist_up (h : Nat) (hh : h < 64) (bit : Int) (hb : bit = 0 ∨ bit = 1) : (2 * (h : Int) + bit) % 64 = ((2 * h + bit.toNat) % 64 : Nat) := by
  rcases hb with rfl | rfl <;> omega

set_option maxRecDepth 100000 in
set_option maxHeartbeats 3200000 in
theorem RLearn_any (b : Nat) (j : J) (w : World) (a0 : Option Addr) (cap0 : Nat) (p : P) (hp : RAt w b a0 cap0 p) (h0 : 0 ≤ j.pc) (h1 : j.pc < 18446744073709551616) :
    Calls Try.prog 36 #[.pointer (some ⟨b, 0, none⟩), .agg #[.int .u64 j.pc, .bool j.call, .bool j.ret, .bool j.cond, .bool j.taken, .int .u64 j.target]] w (RL b w a0 (p.learn j)) := by
  have hlt := hp.lt
  have LE := hide (show p.learn j = (((p.cond j).popped j).called j).aimed j from rfl)
  have M0 := hide (show RM b w j a0 p (w.alloc (.cells #[.int .u64 j.pc, .bool j.call, .bool j.ret, .bool j.cond, .bool j.taken, .int .u64 j.target] 44)) from ⟨only_alloc (World.grownBy.refl _ _) _, ⟨a0, cap0, hp.alloc _, After.refl _ _⟩, j.box w⟩)
  clear hp
  go_enter Try.func36, Try.ntmps36
  go_upto_if 8 with (fail)
  generalize Value.agg #[.int .u64 j.pc, .bool j.call, .bool j.ret, .bool j.cond, .bool j.taken, .int .u64 j.target] = V
  generalize w.alloc _ = w0 at M0 ⊢
  go_cut [] (fun wc => Hid (RM b w j a0 (p.cond j) wc))
  case first =>
    obtain ⟨c0, c1, c2, c3, c4, c5⟩ := J.six M0.out.box
    cases hc : j.cond
    · have E := hide (show p.cond j = p by unfold P.cond; rw [hc]; rfl)
      clear c0 c1 c2 c3 c4 c5 hc
      go_wp2_with fail
      go_meet
      rw [E.out]
      exact M0
    · have E := hide (show p.cond j = p.learned j by unfold P.cond; rw [hc]; rfl)
      rw [hc] at c3
      clear hc
      obtain ⟨a, cap, hra, haf⟩ := M0.out.st
      have R := hide hra
      have AF := hide haf
      have PL := hide (place_any b j.pc w0 a cap p hra h0 h1)
      have f := hra.cells.free
      have cc := hra.counter (cix j.pc p.hist) (cix_lt _ _)
      have c160 := hra.c160
      have hh := hra.hist
      have hk := cix_lt j.pc p.hist
      have hk' : ((cix j.pc p.hist : Nat) : Int) < 64 := by omega
      have hct := hra.ct (cix j.pc p.hist)
      have hlt0 := hra.lt
      have hne : ¬ b = w.heap.size := by omega
      have hne2 : ¬ w.heap.size = b := by omega
      clear hra haf
      cases ht : j.taken
      · have E2 := hide (show p.learned j = { p with ct := fun i => if i = cix j.pc p.hist then p.ct (cix j.pc p.hist) - 1 else p.ct i, hist := 2 * p.hist % 64 } by unfold P.learned; rw [ht]; rfl)
        rw [ht] at c4
        clear ht
        go_wp2_with fail
        refine PL.out.mono ?_
        rintro e w1 ⟨rfl, rfl⟩
        simp only []
        go_wp2_with fail
        go_region
        all_goals go_wp2_with fail
        all_goals go_meet
        all_goals rw [E.out, E2.out]
        all_goals refine M0.out.step hlt ?_ (a := a) (cap := cap) ?_ AF.out
        all_goals first
          | ((repeat (first | (with_reducible exact World.grownBy.refl _ _) | (with_reducible refine only_setCell ?_ (.inl rfl) _) | (with_reducible refine only_drewN ?_ _) | (with_reducible refine only_drew ?_) | (with_reducible refine only_alloc ?_ _))); done)
          | (refine (R.out.learnI (cix j.pc p.hist) hk _ _ _ _ ?_ ?_ ?_ ?_).drew <;> omega)
      · have E2 := hide (show p.learned j = { p with ct := fun i => if i = cix j.pc p.hist then min 3 (p.ct (cix j.pc p.hist) + 1) else p.ct i, hist := (2 * p.hist + 1) % 64 } by unfold P.learned; rw [ht]; rfl)
        rw [ht] at c4
        clear ht
        go_wp2_with fail
        refine PL.out.mono ?_
        rintro e w1 ⟨rfl, rfl⟩
        simp only []
        go_wp2_with fail
        go_region
        all_goals go_wp2_with fail
        all_goals go_meet
        all_goals rw [E.out, E2.out]
        all_goals refine M0.out.step hlt ?_ (a := a) (cap := cap) ?_ AF.out
        all_goals first
          | ((repeat (first | (with_reducible exact World.grownBy.refl _ _) | (with_reducible refine only_setCell ?_ (.inl rfl) _) | (with_reducible refine only_drewN ?_ _) | (with_reducible refine only_drew ?_) | (with_reducible refine only_alloc ?_ _))); done)
          | (refine (R.out.learnI (cix j.pc p.hist) hk _ _ _ _ ?_ ?_ ?_ ?_).drew <;> omega)
  case rest =>
    have M1 := hcut
    generalize p.cond j = p1 at M1 LE ⊢
    clear M0 hcut
    obtain ⟨c0, c1, c2, c3, c4, c5⟩ := J.six M1.out.box
    obtain ⟨a, cap, hra, haf⟩ := M1.out.st
    have R := hide hra
    have AF := hide haf
    have c161 := hra.c161
    have f := hra.cells.free
    have hn := hra.n
    have hlt1 := hra.lt
    have hz1 := M1.out.box.lt
    have hne := Nat.ne_of_lt hlt
    have hcap := hra.sl.le
    have hmax := hra.sl.max
    unfold maxLen at hmax
    have hsome : 0 < p1.n → ∃ g off, a = some ⟨g, off, none⟩ := fun h => by
      obtain ⟨g, off, e, _⟩ := hra.sl.head h
      exact ⟨g, off, e⟩
    clear hra haf
    go_upto_region 9 with (fail)
    go_cut [61] (fun s wd => s = .bool (j.ret && decide (0 < p1.n)) ∧ wd = wc)
    case first =>
      by_cases hp0 : 0 < p1.n
      · have d : decide (0 < p1.n) = true := by simpa using hp0
        cases hr : j.ret
        · have HX := hide (show (j.ret && decide (0 < p1.n)) = false by rw [hr, d]; rfl)
          rw [hr] at c2
          clear hr
          go_wp2_with fail
          go_meet
          exact ⟨by rw [HX.out], rfl⟩
        · have HX := hide (show (j.ret && decide (0 < p1.n)) = true by rw [hr, d]; rfl)
          rw [hr] at c2
          clear hr
          go_wp2_with fail
          go_meet
          exact ⟨by rw [HX.out], rfl⟩
      · have d : decide (0 < p1.n) = false := by simpa using hp0
        cases hr : j.ret
        · have HX := hide (show (j.ret && decide (0 < p1.n)) = false by rw [hr, d]; rfl)
          rw [hr] at c2
          clear hr
          go_wp2_with fail
          go_meet
          exact ⟨by rw [HX.out], rfl⟩
        · have HX := hide (show (j.ret && decide (0 < p1.n)) = false by rw [hr, d]; rfl)
          rw [hr] at c2
          clear hr
          go_wp2_with fail
          go_meet
          exact ⟨by rw [HX.out], rfl⟩
    case rest =>
      obtain ⟨rfl, rfl⟩ := hcut
      go_upto_if 61 with (fail)
      go_cut [] (fun wd => Hid (RM b w j a0 (p1.popped j) wd))
      case first =>
        by_cases hp0 : j.ret = true ∧ 0 < p1.n
        · have E := hide (show p1.popped j = { p1 with n := p1.n - 1 } by unfold P.popped; rw [if_pos hp0])
          have d : (j.ret && decide (0 < p1.n)) = true := by rw [hp0.1]; simpa using hp0.2
          have hp1 := hp0.2
          rw [d]
          clear d hp0
          obtain ⟨g, off, hga⟩ := hsome hp1
          subst hga
          have hi : IntKind.i64.wrap ((p1.n : Int) - 1) = (p1.n : Int) - 1 := IntWalk.i64_in _ (by omega)
          have ht : ((p1.n : Int) - 1).toNat = p1.n - 1 := by omega
          have hcc : ¬ cap = 0 := by omega
          have hx0 : (0 : Int) ≤ (p1.n : Int) - 1 := by omega
          have hx1 : (p1.n : Int) - 1 ≤ (cap : Int) := by omega
          go_wp2_with fail
          go_region
          all_goals go_wp2_with fail
          all_goals go_meet
          all_goals rw [E.out]
          have SH := hide (R.out.shorter (p1.n - 1) (by omega))
          all_goals refine M1.out.step hlt ?_ (a := some ⟨g, off, none⟩) (cap := cap) ?_ AF.out
          all_goals first
            | ((repeat (first | (with_reducible exact World.grownBy.refl _ _) | (with_reducible refine only_setCell ?_ (.inl rfl) _) | (with_reducible refine only_drewN ?_ _) | (with_reducible refine only_drew ?_) | (with_reducible refine only_alloc ?_ _))); done)
            | exact (R.out.setS { p1 with n := p1.n - 1 } rfl rfl rfl (by show p1.n - 1 ≤ 4; omega) SH.out R.out.ap).drew
        · have E := hide (show p1.popped j = p1 by unfold P.popped; rw [if_neg hp0])
          have d : (j.ret && decide (0 < p1.n)) = false := by
            cases hr : j.ret
            · rfl
            · simp [hr] at hp0; simp [hp0]
          rw [d]
          clear d hp0
          go_wp2_with fail
          go_meet
          rw [E.out]
          exact M1
      case rest =>
        have M2 := hcut
        generalize p1.popped j = p2 at M2 LE ⊢
        clear M1 hcut c0 c1 c2 c3 c4 c5 c161 f hn hsome hmax hcap R AF a cap hlt1 hz1
        obtain ⟨c0, c1, c2, c3, c4, c5⟩ := J.six M2.out.box
        go_upto_if 77 with (fail)
        go_cut [] (fun wd => Hid (RM b w j a0 (p2.called j) wd))
        case first =>
          cases hc : j.call
          · have E := hide (show p2.called j = p2 by unfold P.called; rw [hc]; rfl)
            clear c0 c1 c2 c3 c4 c5 hc
            go_wp2_with fail
            go_meet
            rw [E.out]
            exact M2
          · have E := hide (show p2.called j = p2.pushed (np j.pc) by unfold P.called; rw [hc]; rfl)
            rw [hc] at c1
            clear hc
            obtain ⟨a, cap, hra, haf⟩ := M2.out.st
            have R := hide hra
            have AF := hide haf
            have c161 := hra.c161
            have f := hra.cells.free
            have hn := hra.n
            have hlt1 := hra.lt
            have hz1 := M2.out.box.lt
            have hcap := hra.sl.le
            have hmax := hra.sl.max
            unfold maxLen at hmax
            clear hra haf
            obtain ⟨i0, hi0, hi1, hi2, hi3⟩ := info_parts info29'
            have II := hide (And.intro hi0 (And.intro hi1 (And.intro hi2 hi3)))
            clear hi0 hi1 hi2 hi3
            have KS := hide (fun (w' : World) (g : wc.grownBy w' none) => show w'.cell? ⟨b, 161, none⟩ = some (.slice a p2.n cap) ∧ w'.cell? ⟨w.heap.size, 0, none⟩ = some (.int .u64 j.pc) from ⟨(R.out.keep g).c161, (grown_cell g _ hz1 (by simp)).trans c0⟩)
            have H63 := hide (show p2.n ≤ maxLen by unfold maxLen; omega)
            have H63' := hide (show p2.n + 1 ≤ maxLen by unfold maxLen; omega)
            have H8 := hide (show p2.n * 8 ≤ 140737488355328 by omega)
            have H8' := hide (show (p2.n + 1) * 8 ≤ 140737488355328 by omega)
            go_wp2_with fail
            go_region_held3 (fun w' => w'.cell? ⟨b, 161, none⟩ = some (.slice a p2.n cap) ∧ w'.cell? ⟨w.heap.size, 0, none⟩ = some (.int .u64 j.pc))
              (first | go_keep | exact KS.out _ G12.out | exact KS.out _ G1.out)
              (first
                | ((refine step_append_nil _ (by rfl) _ _ 38 (by rfl) wc.heap.size 29 i0 _ 1 8 Try.underlying38 II.out.1 II.out.2.1 II.out.2.2.1 II.out.2.2.2 (by rfl) (by rfl) (.slice a p2.n cap) p2.n p2.sc (by rfl) (SL.src (SL.keep R.out.sl (only_drew (World.grownBy.refl _ _))) Try.underlying38 (sc_one p2)) H63.out H8.out (Nat.le_refl _) ?_; intro a1 k1 w1 hs1 hg1; have G1 := hide (show wc.grownBy w1 none from only_trans (only_drew (World.grownBy.refl _ _)) hg1); have SL1 := hide hs1; have GG1 := hide hg1; clear hs1 hg1))
                | ((refine step_append_nil _ (by rfl) _ _ 38 (by rfl) wc.heap.size 29 i0 _ 1 8 Try.underlying38 II.out.1 II.out.2.1 II.out.2.2.1 II.out.2.2.2 (by rfl) (by rfl) (.slice a p2.n cap) p2.n p2.sc (by rfl) (SL.src (SL.keep R.out.sl (only_drew (only_alloc (World.grownBy.refl _ _) _))) Try.underlying38 (sc_one p2)) H63.out H8.out (by simp) ?_; intro a1 k1 w1 hs1 hg1; have G1 := hide (show wc.grownBy w1 none from only_trans (only_drew (only_alloc (World.grownBy.refl _ _) _)) hg1); have SL1 := hide hs1; have GG1 := hide hg1; clear hs1 hg1))
                | ((refine step_append_all _ (by rfl) _ _ 38 (by rfl) wc.heap.size 29 i0 _ 1 8 Try.underlying38 II.out.1 II.out.2.1 II.out.2.2.1 II.out.2.2.2 (by rfl) a1 p2.n k1 p2.sc (by rfl) (SL.keep SL1.out (only_alloc (World.grownBy.refl _ _) _)) (.slice (some ⟨w1.heap.size, 0, none⟩) 1 1) 1 [.int .u64 (IntKind.u64.wrap (j.pc + 4))] (by rfl) (word_src _ _ _ 29 (by rw [World.cell?_alloc_new]; rfl)) H63'.out H8'.out (Nat.le_trans G1.out.size (by simp)) ?_; intro a2 k2 w2 hs2 hg2 ho2; have G12 := hide (only_new (only_alloc G1.out _) hg2 (SL.own_ge SL1.out)); have SL2 := hide hs2; clear hs2 hg2 ho2))
                | ((refine step_append_all _ (by rfl) _ _ 38 (by rfl) wc.heap.size 29 i0 _ 1 8 Try.underlying38 II.out.1 II.out.2.1 II.out.2.2.1 II.out.2.2.2 (by rfl) a1 p2.n k1 p2.sc (by rfl) SL1.out (.slice (some ⟨wc.heap.size, 0, none⟩) 1 1) 1 [.int .u64 (IntKind.u64.wrap (j.pc + 4))] (by rfl) (word_src _ _ _ 29 ((grown_cell GG1.out _ (by simp) (by simp)).trans (by simp))) H63'.out H8'.out G1.out.size ?_; intro a2 k2 w2 hs2 hg2 ho2; have G12 := hide (only_new G1.out hg2 (SL.own_ge SL1.out)); have SL2 := hide hs2; clear hs2 hg2 ho2)))
            all_goals
              have R2 := hide (R.out.keep G12.out)
              have c161b := R2.out.c161
              have f2 := R2.out.cells.free
              have hlt2 := R2.out.lt
              have hl2 := SL2.out.le
              have hm2 := SL2.out.max
              unfold maxLen at hm2
              have AP := hide (And.intro (SL2.out.apart_lt hlt1) (SL2.out.after M2.out.only.size a0))
              obtain ⟨g2, o2, hga, -, -, -⟩ := SL2.out.head (by omega)
              subst hga
              clear c0 c1 c2 c3 c4 c5 c161 f KS
              by_cases h4 : p2.n < 4
              · have SP := hide (show SL w2 0 1 (some ⟨g2, o2, none⟩) (p2.n + 1) k2 (p2.pushed (np j.pc)).sc by
                  have h := SL2.out.more (Nat.zero_le _)
                  rwa [show p2.sc ++ [Value.int .u64 (IntKind.u64.wrap (j.pc + 4))] = (p2.pushed (np j.pc)).sc from sc_push p2 _ h4] at h)
                have NP4 := hide (show (p2.pushed (np j.pc)).n = p2.n + 1 by unfold P.pushed; simp only [if_pos h4])
                have hk0 : ¬ k2 = 0 := by omega
                go_wp2_with fail
                go_meet
                rw [E.out]
                refine M2.out.step hlt ?_ (a := some ⟨g2, o2, none⟩) (cap := k2) ?_ AP.out.2
                · refine only_trans (only_mono G12.out) ?_
                  with_reducible exact only_setCell (World.grownBy.refl _ _) (.inl rfl) _
                · exact R2.out.setT (p2.pushed (np j.pc)) rfl rfl rfl NP4.out (by omega) SP.out AP.out.1
              · have hn4 : p2.n = 4 := by omega
                have SP := hide (show SL w2 0 1 (some ⟨g2, o2 + 1, none⟩) 4 (k2 - 1) (p2.pushed (np j.pc)).sc by
                  have h := (SL2.out.more (Nat.zero_le _)).cut (k := 1) (by omega)
                  rw [show (p2.sc ++ [Value.int .u64 (IntKind.u64.wrap (j.pc + 4))]).drop (1 * 1) = (p2.pushed (np j.pc)).sc from sc_full p2 _ hn4, hn4] at h
                  unfold cutAt at h
                  rw [if_neg (by omega), Option.map_some, addr_add] at h
                  exact h)
                have NP4 := hide (show (p2.pushed (np j.pc)).n = 4 by unfold P.pushed; simp only [if_neg h4])
                have hk1 : ¬ k2 = 1 := by omega
                have hk5 : 5 ≤ k2 := by omega
                clear h4
                go_wp2_with fail
                go_meet
                rw [E.out]
                refine M2.out.step hlt ?_ (a := some ⟨g2, o2 + 1, none⟩) (cap := k2 - 1) ?_ (fun g hg ha => ?_)
                · refine only_trans (only_mono G12.out) ?_
                  with_reducible exact only_setCell (World.grownBy.refl _ _) (.inl rfl) _
                · refine R2.out.setT (p2.pushed (np j.pc)) rfl rfl rfl NP4.out (by omega) SP.out ?_
                  intro ad e
                  injection e with e
                  subst e
                  exact AP.out.1 ⟨g2, o2, none⟩ rfl
                · intro ad e
                  injection e with e
                  subst e
                  exact AP.out.2 g hg ha ⟨g2, o2, none⟩ rfl
        case rest =>
          have M3 := hcut
          generalize p2.called j = p3 at M3 LE ⊢
          clear M2 hcut c0 c1 c2 c3 c4 c5
          obtain ⟨c0, c1, c2, c3, c4, c5⟩ := J.six M3.out.box
          cases hc : j.taken
          · have E := hide (show p3.aimed j = p3 by unfold P.aimed; rw [hc]; rfl)
            rw [hc] at c4
            clear hc
            go_wp2_with fail
            go_end0
            rw [LE.out, E.out]
            exact ⟨rfl, M3.out.only, M3.out.st⟩
          · have E := hide (show p3.aimed j = { p3 with tg := fun i => if i = tix j.pc then ⟨true, j⟩ else p3.tg i } by unfold P.aimed; rw [hc]; rfl)
            rw [hc] at c4
            obtain ⟨a, cap, hra, haf⟩ := M3.out.st
            have R := hide hra
            have AF := hide haf
            have tb := tix_bits j.pc h0 h1
            have ht := tix_lt j.pc
            have ht' : ((tix j.pc : Nat) : Int) < 16 := by omega
            have t0 := hra.aim (tix j.pc) ht 0 (by omega)
            have t1 := hra.aim (tix j.pc) ht 1 (by omega)
            have t2 := hra.aim (tix j.pc) ht 2 (by omega)
            have t3 := hra.aim (tix j.pc) ht 3 (by omega)
            have t4 := hra.aim (tix j.pc) ht 4 (by omega)
            have t5 := hra.aim (tix j.pc) ht 5 (by omega)
            simp only [T.ac, Nat.add_zero] at t0 t1 t2 t3 t4 t5
            have f := hra.cells.free
            have hlt3 := hra.lt
            have hz3 := M3.out.box.lt
            have hne2 : ¬ w.heap.size = b := by omega
            clear hc hra haf
            go_wp2_with fail
            go_region
            all_goals go_wp2_with fail
            all_goals go_end0
            all_goals rw [LE.out, E.out]
            all_goals refine ⟨rfl, ?_, a, cap, ?_, AF.out⟩
            all_goals first
              | (refine only_trans M3.out.only ?_; (repeat (first | (with_reducible exact World.grownBy.refl _ _) | (with_reducible refine only_setCell ?_ (.inl rfl) _) | (with_reducible refine only_drewN ?_ _) | (with_reducible refine only_drew ?_) | (with_reducible refine only_alloc ?_ _))); done)
              | (with_reducible exact (R.out.setA (tix j.pc) ht j).drew)
end Go.Proofs.Ytkjgklpdoomjcaa
