/- The law's step, beside the front: a word comes: by a contract. -/
import Derived.Test.YtkjgklpdoomjcaaFrtV
import Derived.Deep.RegionHeld3
import Derived.Deep.RegionLaw
import Derived.Deep.DeepCutAuto
import Derived.Deep.CutBlock
namespace Go.Proofs.Ytkjgklpdoomjcaa.Wide
open Go.RowKit
set_option linter.unusedVariables false
set_option linter.unusedSimpArgs false
theorem oc_set (kind x e bits fault : Int) (j : J) (x' e' : Int) (o : Nat) : upd (upd (oc kind x e bits fault j) 1 (.int .u64 x')) 2 (.int .i64 e') o = oc kind x' e' bits fault j o := by
  unfold upd
  match o with
  | 0 => rfl
  | 1 => rfl
  | 2 => rfl
  | 3 => rfl
  | 4 => rfl
  | 5 => rfl
  | 6 => rfl
  | 7 => rfl
  | 8 => rfl
  | 9 => rfl
  | 10 => rfl
  | o + 11 => rfl
theorem info34' : (Try.prog.info? 34).map (fun i => (i.zero, i.size, i.bytes)) = some (some (.agg #[.int .u64 0, .int .u32 0, .int .i64 0, .int .u64 0, .int .i64 0]), 5, 40) := by kernel_rfl
theorem slot_src (s : S) (w : World) (g : Nat) (h : CellsAt w g 5 s.c) : Src Try.prog 5 50 (.slice (some ⟨g, 0, none⟩) 1 1) 1 s.l w :=
  Src.ofSlice _ Try.underlying50 ⟨g, 0, none⟩ 1 1 s.l rfl (fun j u hu => by
    rw [addr_add, Nat.zero_add]
    have hj := (List.getElem?_eq_some_iff.1 hu).1
    have hj5 : j < 5 := hj
    rw [h.cell j hj5]
    rcases (by omega : j = 0 ∨ j = 1 ∨ j = 2 ∨ j = 3 ∨ j = 4) with rfl | rfl | rfl | rfl | rfl <;> exact hu) (fun u hu => by
    simp only [S.l, List.mem_cons, List.not_mem_nil, or_false] at hu
    rcases hu with rfl | rfl | rfl | rfl | rfl <;> rfl)
theorem FG.apart {W w w' : World} {b qb pb sb rb : Nat} {pc1 pc : Int} {fl1 fl : Bool} {L1 L : List S} {ep1 ep : Nat} {p1 p : P} {a : Option Addr} {cap : Nat} {c : Option Addr} {k : Nat} (h : FG W b qb pb sb rb pc1 fl1 L1 ep1 p1 pc fl L ep p a cap c k w) {r : Nat} (g : w.grownBy w' (some r)) (hr : Free sb rb a c r) (n1 : r ≠ b) (n2 : r ≠ qb) (n3 : r ≠ pb) (hW : W.heap.size ≤ r) : FG W b qb pb sb rb pc1 fl1 L1 ep1 p1 pc fl L ep p a cap c k w' :=
  ⟨⟨h.fs.fa.grown g (fun e => n1 (by injection e with e; exact e.symm)), h.fs.ql.grown g (fun e => n2 (by injection e with e; exact e.symm)), h.fs.pa.grown g (fun e => n3 (by injection e with e; exact e.symm)), h.fs.bq, h.fs.bp, h.fs.qp, Only3.refl _ _ _ _⟩,
    h.rt.grown g (fun x e => by injection e with e; subst e; exact hr), h.f1, h.f2, h.f3, h.gb, h.gq, h.gp, h.gs, h.gr, h.ga, below_only h.bel g h.big hW⟩
theorem S.stores (s : S) {w : World} {g : Nat} {f : Nat → Value} (h : CellsAt w g 5 f) : CellsAt (((((w.setCell ⟨g, 0, none⟩ (.int .u64 s.pc)).setCell ⟨g, 1, none⟩ (.int .u32 s.bits)).setCell ⟨g, 2, none⟩ (.int .i64 s.fault)).setCell ⟨g, 3, none⟩ (.int .u64 s.next)).setCell ⟨g, 4, none⟩ (.int .i64 s.epoch)) g 5 s.c :=
  (((((h.set _ _).set _ _).set _ _).set _ _).set _ _).congr fun o ho => by
    unfold upd
    rcases (by omega : o = 0 ∨ o = 1 ∨ o = 2 ∨ o = 3 ∨ o = 4) with rfl | rfl | rfl | rfl | rfl <;> rfl
theorem S.mend (s : S) {w : World} {g : Nat} (h : CellsAt w g 5 s.c) (x y : Int) : CellsAt ((w.setCell ⟨g, 1, none⟩ (.int .u32 x)).setCell ⟨g, 3, none⟩ (.int .u64 y)) g 5 (S.c ⟨s.pc, x, s.fault, y, s.epoch⟩) :=
  ((h.set _ _).set _ _).congr fun o ho => by
    unfold upd
    rcases (by omega : o = 0 ∨ o = 1 ∨ o = 2 ∨ o = 3 ∨ o = 4) with rfl | rfl | rfl | rfl | rfl <;> rfl
theorem S.mend2 (s : S) {w : World} {g : Nat} (h : CellsAt w g 5 s.c) (x y : Int) : CellsAt ((w.setCell ⟨g, 3, none⟩ (.int .u64 y)).setCell ⟨g, 1, none⟩ (.int .u32 x)) g 5 (S.c ⟨s.pc, x, s.fault, y, s.epoch⟩) :=
  ((h.set _ _).set _ _).congr fun o ho => by
    unfold upd
    rcases (by omega : o = 0 ∨ o = 1 ∨ o = 2 ∨ o = 3 ∨ o = 4) with rfl | rfl | rfl | rfl | rfl <;> rfl
section
variable {W w w' : World} {b qb pb sb rb : Nat} {pc : Int} {fl : Bool} {l L : List S} {s : S} {ep : Nat} {p : P} {a : Option Addr} {cap : Nat} {c : Option Addr} {k : Nat}
set_option maxRecDepth 100000 in
set_option maxHeartbeats 12800000 in
theorem step_got (kind x e bits fault : Int) (j : J) (k2 : kind ≠ 2) (k3 : kind ≠ 3) (k4 : kind ≠ 4) (h : FT W b qb pb sb rb pc fl L ep p a cap c k w) :
    Calls Try.prog 46 #[.pointer (some ⟨sb, 0, none⟩), .pointer (some ⟨b, 0, none⟩), .agg (ov kind x e bits fault j)] w (SF W b qb pb sb rb ep) := by
  have HW := hide h
  have H0 := hide (h.alloc (.cells (ov kind x e bits fault j) 90))
  have BX := hide (oc_box kind x e bits fault j w 90)
  have hsb := h.rt.sc.lt
  have hrb := h.rt.ra.lt
  have hb1 := h.fs.fa.2.2.2.2.2.2
  have hb2 := h.fs.ql.lt
  have hb3 := h.fs.pa.lt
  have t2 : (kind == 2) = false := beq_eq_false_iff_ne.2 k2
  have t3 : (kind == 3) = false := beq_eq_false_iff_ne.2 k3
  have t4 : (kind == 4) = false := beq_eq_false_iff_ne.2 k4
  clear h k2 k3 k4
  have WK := hide (World.grownBy_alloc w (.cells (ov kind x e bits fault j) 90) none)
  go_enter Try.func46, Try.ntmps46
  go_upto_block 0 with (fail)
  generalize w.alloc (.cells (ov kind x e bits fault j) 90) = w0 at *
  go_cut [] (fun wc => Hid (∃ X E : Int, FT W b qb pb sb rb pc fl L ep p a cap c k wc ∧ CellsAt wc w.heap.size 11 (oc kind X E bits fault j)))
  case first =>
    have f := BX.out.free
    have hlt := BX.out.lt
    have o1 := BX.out.cell 1 (by omega)
    have o2 := BX.out.cell 2 (by omega)
    simp only [oc] at o1 o2
    have c0 := H0.out.rt.c0
    have c1 := H0.out.rt.c1
    by_cases k1 : kind = 1
    · have t1 : (kind == 1) = true := beq_iff_eq.2 k1
      clear k1
      go_wp2_with fail
      go_meet
      exact ⟨x, e, H0.out, BX.out⟩
    · have t1 : (kind == 1) = false := beq_eq_false_iff_ne.2 k1
      clear k1
      have hne : ¬ w.heap.size = sb := by omega
      have hne2 : ¬ sb = w.heap.size := by omega
      go_wp2_with fail
      go_region
      all_goals go_wp2_with fail
      all_goals go_meet
      all_goals refine ⟨pc, ep, HW.out.keep ?_, ?_⟩
      all_goals first
        | ((repeat (first | (with_reducible exact WK.out) | (with_reducible refine only_setCell ?_ (.inr (Nat.le_refl _)) _) | (with_reducible refine only_drewN ?_ _) | (with_reducible refine only_drew ?_) | (with_reducible refine only_alloc ?_ _))); done)
        | exact (((BX.out.set 1 _).set 2 _).congr fun o _ => oc_set ..).drew
  case rest =>
    clear H0 BX HW WK
    generalize w.heap.size = bx at *
    obtain ⟨X, E, hft, hbx⟩ := hcut.out
    have H0 := hide hft
    have BX := hide hbx
    obtain ⟨N, hN⟩ : ∃ N, L.length = N := ⟨_, rfl⟩
    have N8 : N ≤ 8 := by rw [← hN]; exact hft.len
    have HN := hide hN
    have PP := hide (And.intro hft.pc64 hft.pw)
    have WA := hide (fun n : Nat => (wants_any (wc.drewN n) sb rb pc fl L ep p a cap c k (hft.drewN n).rt))
    have hf := hbx.free
    have hlt := hbx.lt
    have o1 := hbx.cell 1 (by omega)
    have o2 := hbx.cell 2 (by omega)
    have o3 := hbx.cell 3 (by omega)
    have o4 := hbx.cell 4 (by omega)
    simp only [oc] at o1 o2 o3 o4
    have c0 := hft.rt.c0
    have c1 := hft.rt.c1
    have hsb2 := hft.rt.sc.lt
    clear hft hbx hcut
    by_cases hy : fl = false ∧ L.length < 8
    · obtain ⟨rfl, hn⟩ := hy
      have hW : wantsB false L = true := by unfold wantsB; rw [show decide (L.length < 8) = true from decide_eq_true hn]; rfl
      rw [hW] at WA
      clear hW
      rw [hN] at hn
      by_cases hx : pc = X
      · by_cases hE : (ep : Int) = E
        · subst hx hE
          have u1 : (pc != pc) = false := by simp
          have GT0 : ∃ (pc1 : Int) (fl1 : Bool) (L1 : List S), (∀ (w2 : World), FT W b qb pb sb rb pc false L ep p a cap c k w2 → Calls Try.prog 40 #[.pointer (some ⟨b, 0, none⟩), .int .u64 pc, .int .i64 ep, .int .u32 bits, .int .i64 fault] w2 (FR (.int .i64 0) w2 b qb pb pc1 fl1 L1 ep p)) ∧
              (fault = 0 → (p.guess pc).2 = pc1 ∧ false = fl1 ∧ L ++ [⟨pc, bits, 0, (p.guess pc).2, ep⟩] = L1) ∧ (fault ≠ 0 → np pc = pc1 ∧ true = fl1 ∧ L ++ [⟨pc, 0, fault, np pc, ep⟩] = L1) := by
            by_cases hfa : fault = 0
            · subst hfa
              exact ⟨_, _, _, fun w2 h2 => fgot_ok h2.fs (by rw [HN.out]; exact hn) bits PP.out.1.1 PP.out.1.2, fun _ => ⟨rfl, rfl, rfl⟩, fun h => absurd rfl h⟩
            · exact ⟨_, _, _, fun w2 h2 => fgot_fault h2.fs (by rw [HN.out]; exact hn) bits fault hfa, fun h => absurd h hfa, fun _ => ⟨rfl, rfl, rfl⟩⟩
          obtain ⟨pc1, fl1, L1, hGT, hREL⟩ := GT0
          have GT := hide hGT
          have REL := hide hREL
          clear hGT hREL hN
          have W1 := hide (fun n : Nat => (WA.out n).mono fun _ _ h => h)
          go_wp2_with fail
          go_quiet (((go_at_call 54; exact Calls.quiet_of_same (WA.out _))))
          have H1 := hide (H0.out.drewN nq)
          have BX1 := hide (BX.out.drewN nq)
          clear o1 o2 o3 o4 c0 c1 hf H0 BX WA
          generalize wc.drewN nq = w1 at *
          have o1 := BX1.out.cell 1 (by omega)
          have o2 := BX1.out.cell 2 (by omega)
          have o3 := BX1.out.cell 3 (by omega)
          have o4 := BX1.out.cell 4 (by omega)
          simp only [oc] at o1 o2 o3 o4
          go_wp2_with fail
          refine (GT.out _ H1.out).mono ?_
          rintro e w2 ⟨rfl, hf⟩
          have H2 := hide (H1.out.fg.front hf)
          have BX2 := hide (BX1.out.of_block (hf.bel.block bx BX1.out.lt (by omega) (by omega) (by omega)))
          clear hf H1 BX1 GT o1 o2 o3 o4
          have RG := hide (fun (w' : World) (g : w2.grownBy w' none) => rguess_any rb pc w' c k p (H2.out.rt.ra.keep g) PP.out.1.1 PP.out.1.2)
          have GI := hide (PP.out.2.guess pc)
          have PWH := hide PP.out.2
          have NPI := hide (show In64 (np pc) from np_in pc)
          generalize p.guess pc = gs at *
          obtain ⟨g1, g2⟩ := gs
          have KS := hide (fun (w' : World) (g : w2.grownBy w' none) => show w'.cell? ⟨bx, 1, none⟩ = some (.int .u64 pc) ∧ w'.cell? ⟨bx, 2, none⟩ = some (.int .i64 ep) ∧ w'.cell? ⟨bx, 3, none⟩ = some (.int .u32 bits) ∧ w'.cell? ⟨bx, 4, none⟩ = some (.int .i64 fault) ∧ w'.cell? ⟨sb, 4, none⟩ = some (.pointer (some ⟨rb, 0, none⟩)) from
            ⟨(BX2.out.grown g (by simp)).cell 1 (by omega), (BX2.out.grown g (by simp)).cell 2 (by omega), (BX2.out.grown g (by simp)).cell 3 (by omega), (BX2.out.grown g (by simp)).cell 4 (by omega), ((H2.out.keep g).rt).c4⟩)
          have hfd : ∀ w : World, (Instr.field 46 (.agg #[.bool g1, .int .u64 g2]) 1).run Try.prog w = .ok (.int .u64 g2) w := fun _ => by kernel_rfl
          simp only []
          go_upto_region 28 with (fail)
          go_cut [10] (fun v wx => ∃ xb, v = .pointer (some ⟨xb, 0, none⟩) ∧ Hid (w2.grownBy wx none ∧ CellsAt wx xb 5 (S.c ⟨pc, bits, fault, g2, (ep : Int)⟩) ∧ w2.heap.size ≤ xb))
          case first =>
            obtain ⟨d1, d2, d3, d4, d5⟩ := KS.out _ (World.grownBy.refl _ _)
            go_region_held3 (fun w' => w'.cell? ⟨bx, 1, none⟩ = some (.int .u64 pc) ∧ w'.cell? ⟨bx, 2, none⟩ = some (.int .i64 ep) ∧ w'.cell? ⟨bx, 3, none⟩ = some (.int .u32 bits) ∧ w'.cell? ⟨bx, 4, none⟩ = some (.int .i64 fault) ∧ w'.cell? ⟨sb, 4, none⟩ = some (.pointer (some ⟨rb, 0, none⟩)))
              (first | go_keep | exact KS.out _ G3.out | exact KS.out _ (only_alloc G3.out _) | exact KS.out _ (only_setCell (only_setCell (only_setCell (only_setCell (only_setCell G3.out (.inr (Nat.le_refl _)) _) (.inr (Nat.le_refl _)) _) (.inr (Nat.le_refl _)) _) (.inr (Nat.le_refl _)) _) (.inr (Nat.le_refl _)) _))
              (first
                | (go_at_call 35; refine (RG.out _ (only_drew (World.grownBy.refl _ _))).mono ?_; rintro e w3 ⟨rfl, hg, hra⟩; have G3 := hide (only_trans (only_drew (World.grownBy.refl w2 none)) hg); clear hg hra; simp only [])
                | (go_at_call 35; refine (RG.out _ (only_drew (only_alloc (World.grownBy.refl _ _) _))).mono ?_; rintro e w3 ⟨rfl, hg, hra⟩; have G3 := hide (only_trans (only_drew (only_alloc (World.grownBy.refl w2 none) _)) hg); have ZX := hide ((S.box ⟨0, 0, 0, 0, 0⟩ w2).grown (only_trans (only_drew (World.grownBy.refl _ _)) hg) (by simp)); obtain ⟨z0, z1, z2, z3, z4⟩ := S.five ZX.out; have zf := ZX.out.free; have zl := ZX.out.lt; clear hg hra; simp only []))
            all_goals go_wp2_with fail
            all_goals go_meet
            all_goals first
              | exact ⟨w3.heap.size, rfl, only_alloc G3.out _, S.box ⟨pc, bits, fault, g2, (ep : Int)⟩ w3, G3.out.size⟩
              | exact ⟨w2.heap.size, rfl, only_setCell (only_setCell (only_setCell (only_setCell (only_setCell G3.out (.inr (Nat.le_refl _)) _) (.inr (Nat.le_refl _)) _) (.inr (Nat.le_refl _)) _) (.inr (Nat.le_refl _)) _) (.inr (Nat.le_refl _)) _, S.stores ⟨pc, bits, fault, g2, (ep : Int)⟩ ZX.out, Nat.le_refl _⟩
          case rest =>
            obtain ⟨xb, rfl, hk⟩ := hcut
            have H3 := hide (H2.out.keep hk.out.1)
            have BX3 := hide (BX2.out.grown hk.out.1 (by simp))
            have XB := hide hk.out.2.1
            have AX := hide (SL.apart_new H2.out.rt.sl hk.out.2.2)
            have CX := hide (SL.apart_new H2.out.rt.ra.sl hk.out.2.2)
            have o4 : wc.cell? ⟨bx, 4, none⟩ = some (.int .i64 fault) := BX3.out.cell 4 (by omega)
            have nxb : sb < xb := Nat.lt_of_lt_of_le H2.out.rt.sc.lt hk.out.2.2
            have nxq : bx < xb := Nat.lt_of_lt_of_le BX2.out.lt hk.out.2.2
            have fxb : b < xb ∧ qb < xb ∧ pb < xb ∧ rb < xb := ⟨Nat.lt_of_lt_of_le H2.out.fs.fa.2.2.2.2.2.2 hk.out.2.2, Nat.lt_of_lt_of_le H2.out.fs.ql.lt hk.out.2.2, Nat.lt_of_lt_of_le H2.out.fs.pa.lt hk.out.2.2, Nat.lt_of_lt_of_le H2.out.rt.ra.lt hk.out.2.2⟩
            have gxb : W.heap.size ≤ xb := Nat.le_trans H2.out.big hk.out.2.2
            clear hk H2 BX2 KS RG hfd
            have f3 := H3.out.rt.sc.free
            have l3 := H3.out.rt.sc.lt
            have c2 := H3.out.rt.c2
            go_upto_if 168 with (fail)
            obtain ⟨wx, rfl⟩ : ∃ wx : World, wx = wc := ⟨_, rfl⟩
            go_cut [] (fun wy => Hid (∃ (bits2 nx : Int) (fl2 : Bool), CellsAt wy xb 5 (S.c ⟨pc, bits2, fault, nx, (ep : Int)⟩) ∧ In64 nx ∧ FG W b qb pb sb rb nx fl2 (L ++ [⟨pc, bits2, fault, nx, (ep : Int)⟩]) ep p pc fl2 L ep p a cap c k wy))
            case first =>
              by_cases hfa : fault = 0
              · obtain ⟨e1, e2, e3⟩ := REL.out.1 hfa
                subst hfa e1 e2 e3
                clear REL
                go_wp2_with fail
                go_meet
                exact ⟨bits, g2, false, XB.out, GI.out, H3.out⟩
              · obtain ⟨e1, e2, e3⟩ := REL.out.2 hfa
                subst e1 e2 e3
                have u4 : (fault != 0) = true := bne_iff_ne.2 hfa
                clear hfa REL
                have xf := XB.out.free
                have xl := XB.out.lt
                have o1 : wx.cell? ⟨bx, 1, none⟩ = some (.int .u64 pc) := BX3.out.cell 1 (by omega)
                obtain ⟨y0, y1, y2, y3, y4⟩ := S.five XB.out
                have nbx : ¬ bx = xb := by omega
                have nbx2 : ¬ xb = bx := by omega
                have ns1 : ¬ sb = xb := by omega
                have ns2 : ¬ xb = sb := by omega
                have FXX := hide (show Free sb rb a c xb from ⟨by omega, by omega, AX.out, CX.out⟩)
                have G1 : wx.grownBy ((wx.setCell ⟨xb, 1, none⟩ (.int .u32 0)).setCell ⟨xb, 3, none⟩ (.int .u64 (IntKind.u64.wrap (pc + 4)))) (some xb) := by
                  repeat (first | (with_reducible exact World.grownBy.refl _ _) | (with_reducible refine only_setCell ?_ (.inl rfl) _))
                have GA := hide (H3.out.apart G1 FXX.out (by omega) (by omega) (by omega) gxb)
                have XA := hide (S.mend ⟨pc, bits, fault, g2, (ep : Int)⟩ XB.out 0 (IntKind.u64.wrap (pc + 4)))
                have GA2 := hide ((GA.out.setFl true).keep (only_drew (World.grownBy.refl _ _)))
                have XA2 := hide ((XA.out.grown (set_only _ sb 2 (.bool true)) (fun e => by injection e with e; omega)).drew)
                rw [show np pc = IntKind.u64.wrap (pc + 4) from rfl] at GA2 NPI
                clear G1 GA XA
                go_upto_region 30 with (fail)
                go_region
                all_goals go_wp2_with fail
                all_goals go_meet
                exact ⟨0, IntKind.u64.wrap (pc + 4), true, XA2.out, NPI.out, GA2.out⟩
            case rest =>
              obtain ⟨bits2, nx, fl2, hx1, hx2, hx3⟩ := hcut.out
              have XB5 := hide hx1
              have GI5 := hide hx2
              have H5 := hide hx3
              clear hx1 hx2 hx3 hcut H3 XB BX3 REL GI NPI PP CX f3 l3 c2 o4 gxb fxb t2 t3 t4 u1 hsb hrb hb1 hb2 hb3 nxq
              go_upto_region 32 with (fail)
              have c3 := H5.out.rt.c3
              rw [HN.out] at c3
              have c0 := H5.out.rt.c0
              have f := H5.out.rt.sc.free
              have hl := H5.out.rt.sc.lt
              obtain ⟨y0, y1, y2, y3, y4⟩ := S.five XB5.out
              have xl := XB5.out.lt
              obtain ⟨i0, hi0, hi1, hi2, hi3⟩ := info_parts info34'
              have II := hide (And.intro hi0 (And.intro hi1 (And.intro hi2 hi3)))
              have HK := hide (H5.out.keep (only_drew (only_alloc (World.grownBy.refl _ _) (.cells #[.int .u64 pc, .int .u32 bits2, .int .i64 fault, .int .u64 nx, .int .i64 ep] 34))))
              have SA := hide HK.out.rt.sl
              unfold Slots at SA
              rw [HN.out] at SA
              have SS := hide (slot_src ⟨pc, bits2, fault, nx, (ep : Int)⟩ _ wc.heap.size ((S.box ⟨pc, bits2, fault, nx, (ep : Int)⟩ wc).drew))
              have XK := hide (CellsAt.grown XB5.out (row := none) (only_drew (only_alloc (World.grownBy.refl _ _) (.cells #[.int .u64 pc, .int .u32 bits2, .int .i64 fault, .int .u64 nx, .int .i64 ep] 34))) (by simp))
              have H63 := hide (show N + 1 ≤ maxLen by unfold maxLen; omega)
              have H40 := hide (show (N + 1) * 40 ≤ 140737488355328 by omega)
              have ns1 : ¬ sb = xb := by omega
              have ns2 : ¬ xb = sb := by omega
              clear hi0 hi1 hi2 hi3
              go_region_law ((refine step_append_all _ (by rfl) _ _ 50 (by rfl) 0 34 i0 _ 5 40 Try.underlying50 II.out.1 II.out.2.1 II.out.2.2.1 II.out.2.2.2 (by rfl) a N cap (L.flatMap S.l) (by rfl) SA.out (.slice (some ⟨wc.heap.size, 0, none⟩) 1 1) 1 (S.l ⟨pc, bits2, fault, nx, (ep : Int)⟩) (by rfl) SS.out H63.out H40.out (Nat.zero_le _) ?_; intro a' cap' w4 hs4 hg4 ho4; have FA := hide (FG.app HK.out hg4 HN.out hs4 ho4); have SC4 := hide (HK.out.rt.sc.grown hg4 (own_ne HK.out.rt.as_)); have XC4 := hide (XK.out.grown hg4 (own_ne AX.out)); have e3 := SC4.out.cell 3 (by omega); have e0 := SC4.out.cell 0 (by omega); have e4 := SC4.out.free; have e5 := SC4.out.lt; have e6 := XC4.out.cell 3 (by omega); simp only [stc, S.c] at e3 e0 e6; clear hs4 hg4 ho4 SC4 XC4))
              all_goals go_wp2_with fail
              all_goals go_ret
              all_goals exact ⟨rfl, nx, fl2, L ++ [⟨pc, bits2, fault, nx, (ep : Int)⟩], ep, p, a', cap', c, k, by omega, (FA.out.setPc nx).ft GI5.out PWH.out⟩
        · have u2 : (E != (ep : Int)) = true := bne_iff_ne.2 (fun e => hE e.symm)
          subst hx
          have GT := hide (fun (w2 : World) (h2 : FT W b qb pb sb rb pc false L ep p a cap c k w2) => fgot_no h2.fs pc E bits fault (.inr ⟨rfl, by rw [HN.out]; exact hn, .inr ⟨rfl, hE⟩⟩))
          clear hN hE
          have W1 := hide (fun n : Nat => (WA.out n).mono fun _ _ h => h)
          go_wp2_with fail
          go_quiet (((go_at_call 54; exact Calls.quiet_of_same (WA.out _))))
          have H1 := hide (H0.out.drewN nq)
          have BX1 := hide (BX.out.drewN nq)
          clear o1 o2 o3 o4 c0 c1 hf H0 BX WA
          generalize wc.drewN nq = w1 at *
          have o1 := BX1.out.cell 1 (by omega)
          have o2 := BX1.out.cell 2 (by omega)
          have o3 := BX1.out.cell 3 (by omega)
          have o4 := BX1.out.cell 4 (by omega)
          simp only [oc] at o1 o2 o3 o4
          go_wp2_with fail
          refine (GT.out _ H1.out).mono ?_
          rintro e w2 ⟨rfl, hf⟩
          have H2 := hide (H1.out.front hf)
          clear hf H1 BX1 GT o1 o2 o3 o4
          simp only []
          go_wp2_with fail
          go_ret
          exact ⟨rfl, pc, _, L, ep, p, a, cap, c, k, by omega, H2.out⟩
      · have u1 : (X != pc) = true := bne_iff_ne.2 (fun e => hx e.symm)
        have GT := hide (fun (w2 : World) (h2 : FT W b qb pb sb rb pc false L ep p a cap c k w2) => fgot_no h2.fs X E bits fault (.inr ⟨rfl, by rw [HN.out]; exact hn, .inl hx⟩))
        clear hN hx
        have W1 := hide (fun n : Nat => (WA.out n).mono fun _ _ h => h)
        go_wp2_with fail
        go_quiet (((go_at_call 54; exact Calls.quiet_of_same (WA.out _))))
        have H1 := hide (H0.out.drewN nq)
        have BX1 := hide (BX.out.drewN nq)
        clear o1 o2 o3 o4 c0 c1 hf H0 BX WA
        generalize wc.drewN nq = w1 at *
        have o1 := BX1.out.cell 1 (by omega)
        have o2 := BX1.out.cell 2 (by omega)
        have o3 := BX1.out.cell 3 (by omega)
        have o4 := BX1.out.cell 4 (by omega)
        simp only [oc] at o1 o2 o3 o4
        go_wp2_with fail
        refine (GT.out _ H1.out).mono ?_
        rintro e w2 ⟨rfl, hf⟩
        have H2 := hide (H1.out.front hf)
        clear hf H1 BX1 GT o1 o2 o3 o4
        simp only []
        go_wp2_with fail
        go_ret
        exact ⟨rfl, pc, _, L, ep, p, a, cap, c, k, by omega, H2.out⟩
    · have hn : fl = true ∨ fl = false ∧ L.length = 8 := by
        cases fl
        · refine .inr ⟨rfl, ?_⟩
          simp at hy; omega
        · exact .inl rfl
      have hW : wantsB fl L = false := by
        rcases hn with rfl | ⟨rfl, h8⟩
        · unfold wantsB; simp
        · unfold wantsB; rw [h8]; rfl
      rw [hW] at WA
      have GT := hide (fun (w2 : World) (h2 : FT W b qb pb sb rb pc fl L ep p a cap c k w2) => fgot_no h2.fs X E bits fault (.inl hn))
      clear hN hW hn hy
      have W1 := hide (fun n : Nat => (WA.out n).mono fun _ _ h => h)
      go_wp2_with fail
      go_quiet (((go_at_call 54; exact Calls.quiet_of_same (WA.out _))))
      have H1 := hide (H0.out.drewN nq)
      have BX1 := hide (BX.out.drewN nq)
      clear o1 o2 o3 o4 c0 c1 hf H0 BX WA
      generalize wc.drewN nq = w1 at *
      have o1 := BX1.out.cell 1 (by omega)
      have o2 := BX1.out.cell 2 (by omega)
      have o3 := BX1.out.cell 3 (by omega)
      have o4 := BX1.out.cell 4 (by omega)
      simp only [oc] at o1 o2 o3 o4
      go_wp2_with fail
      refine (GT.out _ H1.out).mono ?_
      rintro e w2 ⟨rfl, hf⟩
      have H2 := hide (H1.out.front hf)
      clear hf H1 BX1 GT o1 o2 o3 o4
      simp only []
      go_wp2_with fail
      go_ret
      exact ⟨rfl, pc, _, L, ep, p, a, cap, c, k, by omega, H2.out⟩
end
end Go.Proofs.Ytkjgklpdoomjcaa.Wide
