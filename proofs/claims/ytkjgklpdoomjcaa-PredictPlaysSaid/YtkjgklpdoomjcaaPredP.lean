/- The walk of PredictPlays. -/
import Derived.Test.YtkjgklpdoomjcaaPredS
import Derived.Deep.CutBlock
namespace Go.Proofs.Ytkjgklpdoomjcaa
open Go.RowKit
set_option linter.unusedVariables false
set_option linter.unusedSimpArgs false

/-- Cell i of a call of the script. -/
def Op21.c (o : Op21) : Nat → Value
  | 0 => .int .u64 o.pc
  | 1 => .int .u64 o.j.pc
  | 2 => .bool o.j.call
  | 3 => .bool o.j.ret
  | 4 => .bool o.j.cond
  | 5 => .bool o.j.taken
  | 6 => .int .u64 o.j.target
  | 7 => .bool o.learns
  | _ => .bool o.squash
theorem Op21.box (o : Op21) (w : World) (T : TypeId) : CellsAt (w.alloc (.cells #[.int .u64 o.pc, .int .u64 o.j.pc, .bool o.j.call, .bool o.j.ret, .bool o.j.cond, .bool o.j.taken, .int .u64 o.j.target, .bool o.learns, .bool o.squash] T)) w.heap.size 9 o.c :=
  CellsAt.new w _ T 9 o.c (by omega) fun k hk => by
    rcases (by omega : k = 0 ∨ k = 1 ∨ k = 2 ∨ k = 3 ∨ k = 4 ∨ k = 5 ∨ k = 6 ∨ k = 7 ∨ k = 8) with rfl | rfl | rfl | rfl | rfl | rfl | rfl | rfl | rfl <;> rfl

/-- The predictor of state p, the document's of state r. -/
structure PR (W : World) (pb rb : Nat) (p r : P) (a : Option Addr) (cap : Nat) (w : World) : Prop where
  pa : PAt w pb p
  ra : RAt w rb a cap r
  ap : Apart a pb
  bel : Below W.heap.size W w
  ne : rb ≠ pb
  gp : W.heap.size ≤ pb
  gr : W.heap.size ≤ rb
section
variable {W w w' : World} {pb rb cap : Nat} {p r : P} {a : Option Addr}
theorem PR.big (h : PR W pb rb p r a cap w) : W.heap.size ≤ w.heap.size := Nat.le_of_lt (Nat.lt_of_le_of_lt h.gp h.pa.lt)
theorem PR.keep (h : PR W pb rb p r a cap w) (g : w.grownBy w' none) : PR W pb rb p r a cap w' := ⟨h.pa.grown g (by simp), h.ra.keep g, h.ap, below_none h.bel g h.big, h.ne, h.gp, h.gr⟩
theorem PR.pred (h : PR W pb rb p r a cap w) (g : w.grownBy w' (some pb)) {q : P} (hq : PAt w' pb q) : PR W pb rb q r a cap w' := ⟨hq, h.ra.far g h.ne h.ap, h.ap, below_only h.bel g h.big h.gp, h.ne, h.gp, h.gr⟩
theorem PR.rpred (h : PR W pb rb p r a cap w) (g : w.grownBy w' (some rb)) {q : P} {a' : Option Addr} {cap' : Nat} (hq : RAt w' rb a' cap' q) (af : After w a a') : PR W pb rb p q a' cap' w' :=
  ⟨h.pa.grown g (fun e => h.ne (by injection e with e; exact e.symm)), hq, af pb h.pa.lt h.ap, below_only h.bel g h.big h.gr, h.ne, h.gp, h.gr⟩
end
/-- The box of the call lies beside them. -/
structure PS (W : World) (pb rb bx : Nat) (o : Op21) (p r : P) (a : Option Addr) (cap : Nat) (w : World) : Prop where
  pr : PR W pb rb p r a cap w
  box : CellsAt w bx 9 o.c
  np : bx ≠ pb
  nr : bx ≠ rb
section
variable {W w w' : World} {pb rb bx cap : Nat} {p r : P} {a : Option Addr} {o : Op21}
theorem PS.keep (h : PS W pb rb bx o p r a cap w) (g : w.grownBy w' none) : PS W pb rb bx o p r a cap w' := ⟨h.pr.keep g, h.box.grown g (by simp), h.np, h.nr⟩
theorem PS.pred (h : PS W pb rb bx o p r a cap w) (g : w.grownBy w' (some pb)) {q : P} (hq : PAt w' pb q) : PS W pb rb bx o q r a cap w' := ⟨h.pr.pred g hq, h.box.grown g (fun e => h.np (by injection e)), h.np, h.nr⟩
theorem PS.rpred (h : PS W pb rb bx o p r a cap w) (g : w.grownBy w' (some rb)) {q : P} {a' : Option Addr} {cap' : Nat} (hq : RAt w' rb a' cap' q) (af : After w a a') : PS W pb rb bx o p q a' cap' w' :=
  ⟨h.pr.rpred g hq af, h.box.grown g (fun e => h.nr (by injection e)), h.np, h.nr⟩
theorem PS.c0 (h : PS W pb rb bx o p r a cap w) : w.cell? ⟨bx, 0, none⟩ = some (.int .u64 o.pc) := h.box.cell 0 (by omega)
theorem PS.guess (h : PS W pb rb bx o p r a cap w) (pc : Int) (h0 : 0 ≤ pc) (h1 : pc < 18446744073709551616) :
    Calls Try.prog 28 #[.pointer (some ⟨pb, 0, none⟩), .int .u64 pc] w fun e w' => e = .returned (.agg #[.bool (p.guess pc).1, .int .u64 (p.guess pc).2]) ∧ PS W pb rb bx o p r a cap w' :=
  (guess_any pb pc w p h.pr.pa h0 h1).mono fun _ _ ⟨e, g, _⟩ => ⟨e, h.keep g⟩
theorem PS.rguess (h : PS W pb rb bx o p r a cap w) (pc : Int) (h0 : 0 ≤ pc) (h1 : pc < 18446744073709551616) :
    Calls Try.prog 35 #[.pointer (some ⟨rb, 0, none⟩), .int .u64 pc] w fun e w' => e = .returned (.agg #[.bool (r.guess pc).1, .int .u64 (r.guess pc).2]) ∧ PS W pb rb bx o p r a cap w' :=
  (rguess_any rb pc w a cap r h.pr.ra h0 h1).mono fun _ _ ⟨e, g, _⟩ => ⟨e, h.keep g⟩
theorem PS.history (h : PS W pb rb bx o p r a cap w) : Calls Try.prog 33 #[.pointer (some ⟨pb, 0, none⟩)] w fun e w' => e = .returned (.int .i64 p.hist) ∧ PS W pb rb bx o p r a cap w' :=
  (history_any pb w p h.pr.pa).mono fun _ _ ⟨e, g⟩ => ⟨e, g ▸ h⟩
theorem PS.learn (h : PS W pb rb bx o p r a cap w) (j : J) (h0 : 0 ≤ j.pc) (h1 : j.pc < 18446744073709551616) :
    Calls Try.prog 27 #[.pointer (some ⟨pb, 0, none⟩), .agg #[.int .u64 j.pc, .bool j.call, .bool j.ret, .bool j.cond, .bool j.taken, .int .u64 j.target]] w fun e w' => e = .returned (.tuple #[]) ∧ PS W pb rb bx o (p.learn j) r a cap w' :=
  (Learn_any pb j w p h.pr.pa h0 h1).mono fun _ _ ⟨e, g, hq⟩ => ⟨e, h.pred g hq⟩
theorem PS.rlearn (h : PS W pb rb bx o p r a cap w) (j : J) (h0 : 0 ≤ j.pc) (h1 : j.pc < 18446744073709551616) :
    Calls Try.prog 36 #[.pointer (some ⟨rb, 0, none⟩), .agg #[.int .u64 j.pc, .bool j.call, .bool j.ret, .bool j.cond, .bool j.taken, .int .u64 j.target]] w fun e w' => e = .returned (.tuple #[]) ∧ ∃ a' cap', PS W pb rb bx o p (r.learn j) a' cap' w' :=
  (RLearn_any rb j w a cap r h.pr.ra h0 h1).mono fun _ _ ⟨e, g, a', cap', hq, af⟩ => ⟨e, a', cap', h.rpred g hq af⟩
theorem PS.squash (h : PS W pb rb bx o p r a cap w) : Calls Try.prog 32 #[.pointer (some ⟨pb, 0, none⟩)] w fun e w' => e = .returned (.tuple #[]) ∧ PS W pb rb bx o { p with n := 0 } r a cap w' :=
  (psquash_any pb w p h.pr.pa).mono fun _ _ ⟨e, g, hq⟩ => ⟨e, h.pred g hq⟩
theorem PS.rsquash (h : PS W pb rb bx o p r a cap w) : PS W pb rb bx o p { r with n := 0 } none 0 (w.setCell ⟨rb, 161, none⟩ (.slice none 0 0)) :=
  h.rpred (only_setCell (World.grownBy.refl _ _) (.inl rfl) _) (h.pr.ra.setT { r with n := 0 } rfl rfl rfl rfl (Nat.zero_le _) SL.nil (Apart.none_ _)) (fun g _ _ => Apart.none_ g)
end

set_option maxRecDepth 100000 in
set_option maxHeartbeats 6400000 in
theorem plays21_walk (W : World) (seed : Int) (ws : (Lit.int .u64 seed).wf = true) (sa : Option Addr) (len cs : Nat) (hlen : len ≤ 9223372036854775807) (hr : RowOf W sa len 9 Op21.l Op21.wf) :
    Calls Try.prog 11 #[.int .u64 seed, .slice sa len cs] W fun e w' => e = .returned (.bool true) ∧ Below W.heap.size W w' := by
  obtain ⟨s0, s1⟩ := u64_wf ws
  have HR := hide hr
  clear hr ws
  go_enter Try.func11, Try.ntmps11
  go_wp2_with fail
  refine (pnew_any seed _ s0 s1).mono ?_
  rintro e w1 ⟨rfl, hg, hz, hp⟩
  have B1 := hide (And.intro hp (below_none (Below.refl W.heap.size W) hg (Nat.le_refl _)))
  clear hg hp
  simp only []
  go_wp2_with fail
  refine (rnew_any seed _ s0 s1).mono ?_
  rintro e w2 ⟨rfl, hg, hz2, hra⟩
  have I2 := hide (show PR W W.heap.size w1.heap.size (P.new seed) (P.new seed) none 0 w2 from ⟨B1.out.1.grown hg (by simp), hra, Apart.none_ _, below_none B1.out.2 hg (Nat.le_of_lt hz), Nat.ne_of_gt hz, Nat.le_refl _, Nat.le_of_lt hz⟩)
  clear hg hra
  simp only []
  go_wp2_with fail
  refine (awake21 _).mono ?_
  rintro e w3 ⟨rfl, hg⟩
  have I3 := hide (I2.out.keep hg)
  have hz3 : w1.heap.size < w3.heap.size := Nat.lt_of_lt_of_le hz2 hg.size
  clear hg hz2
  generalize w1.heap.size = rb at *
  simp only []
  go_wp2_with fail
  go_loopg [7] 300 (fun gg vi wr => ∃ (i : Nat), i + gg = 300 ∧ vi = .int .i64 i ∧ W.heap.size < wr.heap.size ∧ rb < wr.heap.size ∧ Hid (∃ p a cap, PR W W.heap.size rb p p a cap wr))
  case atStart => exact ⟨0, by omega, rfl, by omega, hz3, _, _, _, I3.out⟩
  case round =>
    obtain ⟨i, hig, rfl, hz4, hz5, hI⟩ := hrel
    by_cases hlt : i < len
    · by_cases h300 : i < 300
      · obtain ⟨ba, off, ⟨pc, j, learns, squash⟩, rfl, hba, hwf, hc⟩ := HR.out i hlt
        obtain ⟨p0, p1⟩ := u64_wf hwf.1
        obtain ⟨j0, j1⟩ := u64_wf hwf.2.1
        have hbel : Below W.heap.size W wr := by obtain ⟨p, a, cap, h⟩ := hI.out; exact h.bel
        have kc : ∀ (k : Nat) (v : Value), k < 9 → (Op21.l ⟨pc, j, learns, squash⟩)[k]? = some v → wr.cell? ⟨ba, off + i * 9 + k, none⟩ = some v := fun k v hk hv => (hbel.cell (p := ⟨ba, off + i * 9 + k, none⟩) hba).trans ((hc k hk).trans hv)
        have c0 : wr.cell? ⟨ba, off + i * 9, none⟩ = some (.int .u64 pc) := kc 0 _ (by omega) rfl
        have c1 := kc 1 _ (by omega) rfl
        have c2 := kc 2 _ (by omega) rfl
        have c3 := kc 3 _ (by omega) rfl
        have c4 := kc 4 _ (by omega) rfl
        have c5 := kc 5 _ (by omega) rfl
        have c6 := kc 6 _ (by omega) rfl
        have c7 := kc 7 _ (by omega) rfl
        have c8 := kc 8 _ (by omega) rfl
        clear hc hwf hbel kc
        have hba2 : ba < wr.heap.size := by omega
        have hii : decide ((i : Int) < (len : Int)) = true := by simp; omega
        have hi3 : decide ((i : Int) < 300) = true := by simp; omega
        obtain ⟨p, a, cap, hpr⟩ := hI.out
        have I4 := hide (show PS W W.heap.size rb wr.heap.size ⟨pc, j, learns, squash⟩ p p a cap (wr.alloc (.cells #[.int .u64 pc, .int .u64 j.pc, .bool j.call, .bool j.ret, .bool j.cond, .bool j.taken, .int .u64 j.target, .bool learns, .bool squash] 60)) from
          ⟨hpr.keep (only_alloc (World.grownBy.refl _ _) _), Op21.box ⟨pc, j, learns, squash⟩ wr 60, by omega, by omega⟩)
        have hbx : wr.heap.size < (wr.alloc (.cells #[.int .u64 pc, .int .u64 j.pc, .bool j.call, .bool j.ret, .bool j.cond, .bool j.taken, .int .u64 j.target, .bool learns, .bool squash] 60)).heap.size := by simp
        clear hI hpr
        go_upto_region 9 with (fail)
        generalize wr.alloc (.cells #[.int .u64 pc, .int .u64 j.pc, .bool j.call, .bool j.ret, .bool j.cond, .bool j.taken, .int .u64 j.target, .bool learns, .bool squash] 60) = w5 at *
        have hb2 : W.heap.size < wr.heap.size := hz4
        have hb3 : rb < wr.heap.size := hz5
        generalize wr.heap.size = bx at *
        clear c0 c1 c2 c3 c4 c5 c6 c7 c8 hii hi3 hba hba2
        have GC := hide (fun (w' : World) (h : PS W W.heap.size rb bx ⟨pc, j, learns, squash⟩ p p a cap w') => h.guess pc p0 p1)
        have RC := hide (fun (w' : World) (h : PS W W.heap.size rb bx ⟨pc, j, learns, squash⟩ p p a cap w') => h.rguess pc p0 p1)
        have HC := hide (fun (w' : World) (h : PS W W.heap.size rb bx ⟨pc, j, learns, squash⟩ p p a cap w') => h.history)
        have KS := hide (fun (w' : World) (h : PS W W.heap.size rb bx ⟨pc, j, learns, squash⟩ p p a cap w') => show w'.cell? ⟨bx, 0, none⟩ = some (.int .u64 pc) ∧ w'.cell? ⟨rb, 160, none⟩ = some (.int .i64 p.hist) from ⟨h.c0, h.pr.ra.c160⟩)
        obtain ⟨d0, d1⟩ := KS.out _ I4.out
        have H0 := hide (I4.out.keep (only_drew (World.grownBy.refl _ _)))
        generalize p.guess pc = gs at *
        obtain ⟨g1, g2⟩ := gs
        simp only [] at GC RC
        go_region_held3 (fun w' => w'.cell? ⟨bx, 0, none⟩ = some (.int .u64 pc) ∧ w'.cell? ⟨rb, 160, none⟩ = some (.int .i64 p.hist))
          (first | go_keep | exact KS.out _ H1.out)
          (first
            | (go_at_call 28; refine (GC.out _ H1.out).mono ?_; rintro e w6 ⟨rfl, h⟩; have H1 := hide h; clear h)
            | (go_at_call 28; refine (GC.out _ H0.out).mono ?_; rintro e w6 ⟨rfl, h⟩; have H1 := hide h; clear h)
            | (go_at_call 35; refine (RC.out _ H1.out).mono ?_; rintro e w6 ⟨rfl, h⟩; have H1 := hide h; clear h)
            | (go_at_call 35; refine (RC.out _ H0.out).mono ?_; rintro e w6 ⟨rfl, h⟩; have H1 := hide h; clear h)
            | (go_at_call 33; refine (HC.out _ H1.out).mono ?_; rintro e w6 ⟨rfl, h⟩; have H1 := hide h; clear h))
        all_goals
          clear GC RC HC KS d0 d1 H0 I4
          have e7 : w6.cell? ⟨bx, 7, none⟩ = some (.bool learns) := H1.out.box.cell 7 (by omega)
          go_upto_if 52 with (fail)
          go_cut [] (fun wc => Hid (∃ p a cap, PS W W.heap.size rb bx ⟨pc, j, learns, squash⟩ p p a cap wc))
          case first =>
            cases learns
            · go_wp2_with fail
              go_meet
              exact ⟨p, a, cap, H1.out⟩
            · have b1 : w6.cell? ⟨bx, 1, none⟩ = some (.int .u64 j.pc) := H1.out.box.cell 1 (by omega)
              have b2 : w6.cell? ⟨bx, 2, none⟩ = some (.bool j.call) := H1.out.box.cell 2 (by omega)
              have b3 : w6.cell? ⟨bx, 3, none⟩ = some (.bool j.ret) := H1.out.box.cell 3 (by omega)
              have b4 : w6.cell? ⟨bx, 4, none⟩ = some (.bool j.cond) := H1.out.box.cell 4 (by omega)
              have b5 : w6.cell? ⟨bx, 5, none⟩ = some (.bool j.taken) := H1.out.box.cell 5 (by omega)
              have b6 : w6.cell? ⟨bx, 6, none⟩ = some (.int .u64 j.target) := H1.out.box.cell 6 (by omega)
              go_wp2_with fail
              refine (H1.out.learn j j0 j1).mono ?_
              rintro e w7 ⟨rfl, h⟩
              have H2 := hide h
              clear h b1 b2 b3 b4 b5 b6 e7
              have b1 : w7.cell? ⟨bx, 1, none⟩ = some (.int .u64 j.pc) := H2.out.box.cell 1 (by omega)
              have b2 : w7.cell? ⟨bx, 2, none⟩ = some (.bool j.call) := H2.out.box.cell 2 (by omega)
              have b3 : w7.cell? ⟨bx, 3, none⟩ = some (.bool j.ret) := H2.out.box.cell 3 (by omega)
              have b4 : w7.cell? ⟨bx, 4, none⟩ = some (.bool j.cond) := H2.out.box.cell 4 (by omega)
              have b5 : w7.cell? ⟨bx, 5, none⟩ = some (.bool j.taken) := H2.out.box.cell 5 (by omega)
              have b6 : w7.cell? ⟨bx, 6, none⟩ = some (.int .u64 j.target) := H2.out.box.cell 6 (by omega)
              simp only []
              go_wp2_with fail
              refine (H2.out.rlearn j j0 j1).mono ?_
              rintro e w8 ⟨rfl, a2, cap2, h⟩
              have H3 := hide h
              clear h b1 b2 b3 b4 b5 b6
              simp only []
              go_wp2_with fail
              go_meet
              exact ⟨_, a2, cap2, H3.out⟩
          case rest =>
            clear H1 e7
            obtain ⟨q, a2, cap2, hps⟩ := hcut.out
            have H1 := hide hps
            clear hps hcut
            have e8 : wc.cell? ⟨bx, 8, none⟩ = some (.bool squash) := H1.out.box.cell 8 (by omega)
            cases squash
            · have z1 := H1.out.pr.pa.lt
              have z2 := H1.out.pr.ra.lt
              go_wp2_with fail
              go_roundg (300 - (i + 1))
              case measure => omega
              case rel => exact ⟨i + 1, by omega, by go_num, z1, z2, q, a2, cap2, H1.out.pr⟩
            · go_wp2_with fail
              refine H1.out.squash.mono ?_
              rintro e w7 ⟨rfl, h⟩
              have H2 := hide h
              have d := h.pr.ra.c161
              have f := h.pr.ra.cells.free
              have z1 := h.pr.pa.lt
              have z2 := h.pr.ra.lt
              clear h e8
              simp only []
              go_wp2_with fail
              go_roundg (300 - (i + 1))
              case measure => omega
              case rel => exact ⟨i + 1, by omega, by go_num, by simpa [World.setCell] using z1, by simpa [World.setCell] using z2, _, none, 0, H2.out.rsquash.pr⟩
      · have hii : decide ((i : Int) < (len : Int)) = true := by simp; omega
        have hi3 : decide ((i : Int) < 300) = false := by simp; omega
        go_wp2_with fail
        go_ret
        exact ⟨rfl, by obtain ⟨p, a, cap, h⟩ := hI.out; exact h.bel⟩
    · have hii : decide ((i : Int) < (len : Int)) = false := by simp; omega
      go_wp2_with fail
      go_ret
      exact ⟨rfl, by obtain ⟨p, a, cap, h⟩ := hI.out; exact h.bel⟩
end Go.Proofs.Ytkjgklpdoomjcaa
